import Derived.Test.YtleoedjjepkhgaaFix
/- What copier.Collect holds while it runs. -/
namespace Go.Proofs.Ytleoedjjepkhgaa
open Go.RowKit

/-- a block that holds none of the types ts, or is older than W, or is a map -/
def Apart (W w : World) (ts : List TypeId) (k : Nat) : Prop := k < W.heap.size ∨ (∃ es c, w.heap[k]? = some (.map es c)) ∨ ∃ cs t fz, w.heap[k]? = some (.cells cs t fz) ∧ t ∉ ts

theorem Apart.mono {W w : World} {ts us : List TypeId} {k : Nat} (h : Apart W w ts k) (hu : ∀ t ∈ us, t ∈ ts) : Apart W w us k := by
  rcases h with h | h | ⟨cs, t, fz, h1, h2⟩
  · exact .inl h
  · exact .inr (.inl h)
  · exact .inr (.inr ⟨cs, t, fz, h1, fun h => h2 (hu _ h)⟩)

theorem cells_keep {F : List Nat} {W w w' : World} {b : Nat} {cs : Array Value} {t : TypeId} {fz : Nat × Nat} (hk : w.heap[b]? = some (.cells cs t fz)) (hb : W.heap.size ≤ b) (hc : Chg F w w') (hF : ∀ k ∈ F, Apart W w [t] k) : w'.heap[b]? = some (.cells cs t fz) := by
  refine hc.get hk fun h => ?_
  rcases hF b h with h1 | ⟨es, c, h1⟩ | ⟨cs', t', fz', h1, h2⟩
  · omega
  · rw [hk] at h1; cases h1
  · rw [hk] at h1; cases h1; simp at h2

theorem row_keep {F : List Nat} {W w w' : World} {base : Nat} {e : TypeId} {size : Nat} {v : Value} {n : Nat} {xs : List Value} (H : w.ownsRow base e size v n xs) (hb : W.heap.size ≤ base) (hc : Chg F w w') (hF : ∀ k ∈ F, Apart W w [e] k) : w'.ownsRow base e size v n xs := by
  refine ownsRow_chg H hc fun k hk hm => ?_
  rcases H.2 with ⟨rfl, _⟩ | ⟨g, cap, cur, rfl, h1, h2, _⟩
  · simp [Value.ownBlock] at hk
  · have e1 : g = k := by simpa [Value.ownBlock] using hk
    subst e1
    rcases hF g hm with h3 | ⟨es, c, h3⟩ | ⟨cs', t', fz', h3, h4⟩
    · omega
    · rw [h2] at h3; cases h3
    · rw [h2] at h3; cases h3; simp at h4

/-- the owner of a row is apart from what holds other types -/
theorem own_apart {W w : World} {base : Nat} {e : TypeId} {size : Nat} {v : Value} {n : Nat} {xs : List Value} (H : w.ownsRow base e size v n xs) {ts : List TypeId} (he : e ∉ ts) : ∀ k ∈ v.ownBlock.toList, Apart W w ts k := by
  intro k hk
  rw [Option.mem_toList] at hk
  rcases H.2 with ⟨rfl, _⟩ | ⟨g, cap, cur, rfl, h1, h2, _⟩
  · simp [Value.ownBlock] at hk
  · have e1 : g = k := by simpa [Value.ownBlock] using hk
    subst e1
    exact .inr (.inr ⟨_, _, _, h2, he⟩)

theorem foot_apart {W w : World} {p h c : Nat} {sv0 sv : Value} {cs0 cs : List Int} {S0 S : St} (H0 : AM W p h c sv0 cs0 S0) (H : AM w p h c sv cs S) {ts : List TypeId} (he : 3 ∉ ts) : ∀ k ∈ foot p h c sv, Apart W w ts k := by
  intro k hk
  unfold foot at hk
  simp only [List.mem_cons] at hk
  rcases hk with rfl | rfl | rfl | hk
  · exact .inl (lt_of_heap H0.a)
  · exact .inl (lt_of_heap H0.hv)
  · exact .inl (lt_of_heap H0.cc)
  · exact own_apart H.starts he k hk

theorem map_apart {W w : World} {m : Nat} {f : Int → Option Value} (H : MapIs w m f) (ts : List TypeId) : Apart W w ts m := by
  obtain ⟨es, c, h, _⟩ := H
  exact .inr (.inl ⟨es, c, h⟩)

theorem Chg.over {F : List Nat} {W w w' : World} (h : Chg [] W w) (k : Chg F w w') (hF : ∀ b ∈ F, W.heap.size ≤ b) : Chg [] W w' :=
  ⟨k.os.trans h.os, k.tape.trans h.tape, k.output.trans h.output, Nat.le_trans h.size k.size, fun b hb hn => by
    rw [k.block b (Nat.lt_of_lt_of_le hb h.size) (fun hm => by have := hF b hm; omega)]
    exact h.block b hb hn⟩

/-- boxes, maps and the row of what is reached -/
structure CE (W w : World) (p : Nat) (S : St) (bA bB bD bT mB mD mT : Nat) (l : List Int) (tf : Int → Option Value) (fv : Value) (g : List Nat) : Prop where
  kA : w.heap[bA]? = some (.cells #[.pointer (some ⟨p, 0, none⟩)] 44 (0, 0))
  kB : w.heap[bB]? = some (.cells #[.map (some mB)] 106 (0, 0))
  kD : w.heap[bD]? = some (.cells #[.map (some mD)] 107 (0, 0))
  kT : w.heap[bT]? = some (.cells #[.map (some mT)] 106 (0, 0))
  begs : MapIs w mB (begAs S l)
  dists : MapIs w mD (distAs S l)
  tos : MapIs w mT tf
  nBD : mB ≠ mD
  nTB : mT ≠ mB
  nTD : mT ≠ mD
  fA : W.heap.size ≤ bA
  fB : W.heap.size ≤ bB
  fD : W.heap.size ≤ bD
  fT : W.heap.size ≤ bT
  gB : W.heap.size ≤ mB
  gD : W.heap.size ≤ mD
  gT : W.heap.size ≤ mT
  frm : w.ownsRow W.heap.size 49 1 fv g.length (words (ptrs S g))

def tsE : List TypeId := [44, 106, 107, 49]

section
variable {W w w' : World} {p : Nat} {S : St} {bA bB bD bT mB mD mT : Nat} {l : List Int} {tf : Int → Option Value} {fv : Value} {g : List Nat}

theorem CE.keep {F : List Nat} (H : CE W w p S bA bB bD bT mB mD mT l tf fv g) (hc : Chg F w w') (hF : ∀ k ∈ F, Apart W w tsE k) (h1 : mB ∉ F) (h2 : mD ∉ F) (h3 : mT ∉ F) : CE W w' p S bA bB bD bT mB mD mT l tf fv g := by
  have hp : ∀ t ∈ tsE, ∀ k ∈ F, Apart W w [t] k := fun t ht k hk => (hF k hk).mono (by intro u hu; simp at hu; exact hu ▸ ht)
  exact ⟨cells_keep H.kA H.fA hc (hp _ (by simp [tsE])), cells_keep H.kB H.fB hc (hp _ (by simp [tsE])), cells_keep H.kD H.fD hc (hp _ (by simp [tsE])), cells_keep H.kT H.fT hc (hp _ (by simp [tsE])),
    H.begs.kept (hc.block _ H.begs.lt h1), H.dists.kept (hc.block _ H.dists.lt h2), H.tos.kept (hc.block _ H.tos.lt h3), H.nBD, H.nTB, H.nTD, H.fA, H.fB, H.fD, H.fT, H.gB, H.gD, H.gT, row_keep H.frm (Nat.le_refl _) hc (hp _ (by simp [tsE]))⟩

/-- a map is none of the blocks that hold cells, and none of the old ones -/
theorem CE.maps_out (H : CE W w p S bA bB bD bT mB mD mT l tf fv g) {F : List Nat} (hF : ∀ k ∈ F, k < W.heap.size ∨ ∃ cs t fz, w.heap[k]? = some (.cells cs t fz)) : mB ∉ F ∧ mD ∉ F ∧ mT ∉ F := by
  have key : ∀ m f, MapIs w m f → W.heap.size ≤ m → m ∉ F := by
    intro m f hm hge hin
    rcases hF m hin with h | ⟨cs, t, fz, h⟩
    · omega
    · exact map_ne_cells hm h rfl
  exact ⟨key _ _ H.begs H.gB, key _ _ H.dists H.gD, key _ _ H.tos H.gT⟩

theorem CE.note (H : CE W w p S bA bB bD bT mB mD mT l tf fv g) (hc : Chg [] W w) : CN W w p S bA bB bD mB mD l := ⟨hc, H.kA, H.kB, H.kD, H.begs, H.dists, H.nBD, H.gB, H.gD⟩

theorem CE.noted (H : CE W w p S bA bB bD bT mB mD mT l tf fv g) {x : Int} (hn : CN W w' p S bA bB bD mB mD (x :: l)) (hc : Chg [mB, mD] w w') : CE W w' p S bA bB bD bT mB mD mT (x :: l) tf fv g := by
  have hp : ∀ ts, ∀ k ∈ [mB, mD], Apart W w ts k := by
    intro ts k hk
    simp only [List.mem_cons, List.not_mem_nil, or_false] at hk
    rcases hk with rfl | rfl
    · exact map_apart H.begs ts
    · exact map_apart H.dists ts
  exact ⟨hn.kA, hn.kB, hn.kD, cells_keep H.kT H.fT hc (hp _), hn.begs, hn.dists, H.tos.kept (hc.block _ H.tos.lt (by simp [H.nTB, H.nTD])), H.nBD, H.nTB, H.nTD, H.fA, H.fB, H.fD, H.fT, H.gB, H.gD, H.gT, row_keep H.frm (Nat.le_refl _) hc (hp _)⟩

/-- a row stays where a word is noted -/
theorem CE.noted_row (H : CE W w p S bA bB bD bT mB mD mT l tf fv g) (hc : Chg [mB, mD] w w') {base : Nat} {e : TypeId} {size : Nat} {v : Value} {n : Nat} {xs : List Value} (hr : w.ownsRow base e size v n xs) (hb : W.heap.size ≤ base) : w'.ownsRow base e size v n xs := by
  refine row_keep hr hb hc ?_
  intro k hk
  simp only [List.mem_cons, List.not_mem_nil, or_false] at hk
  rcases hk with rfl | rfl
  · exact map_apart H.begs _
  · exact map_apart H.dists _
end

/-- the kept blocks: what each holds, and where its words lie -/
def kcells (ks : List (Blk × Value)) : List Value := ks.flatMap fun q => [.int .i64 ((q.1.tag : Nat) : Int), q.2]

structure Kp (W w : World) (kv : Value) (ks : List (Blk × Value)) : Prop where
  row : w.ownsRow W.heap.size 87 2 kv ks.length (kcells ks)
  each : ∀ q ∈ ks, w.ownsRow W.heap.size 49 1 q.2 q.1.fs.length (words q.1.fs)

theorem Kp.keep {F : List Nat} {W w w' : World} {kv : Value} {ks : List (Blk × Value)} (H : Kp W w kv ks) (hc : Chg F w w') (hF : ∀ k ∈ F, Apart W w [87, 49] k) : Kp W w' kv ks :=
  ⟨row_keep H.row (Nat.le_refl _) hc (fun k hk => (hF k hk).mono (by simp)), fun q hq => row_keep (H.each q hq) (Nat.le_refl _) hc (fun k hk => (hF k hk).mono (by simp))⟩

theorem kcells_len (ks : List (Blk × Value)) : (kcells ks).length = ks.length * 2 := by
  induction ks with
  | nil => rfl
  | cons q ks ih => simp only [kcells, List.flatMap_cons, List.length_append, List.length_cons] at *; simp only [List.length_nil]; omega

theorem kcells_get : ∀ (ks : List (Blk × Value)) (k : Nat) (q : Blk × Value), ks[k]? = some q → (kcells ks)[k * 2]? = some (.int .i64 ((q.1.tag : Nat) : Int)) ∧ (kcells ks)[k * 2 + 1]? = some q.2
  | [], k, q, h => by simp at h
  | r :: ks, 0, q, h => by
    simp only [List.getElem?_cons_zero, Option.some.injEq] at h
    subst h
    exact ⟨rfl, rfl⟩
  | r :: ks, k + 1, q, h => by
    rw [List.getElem?_cons_succ] at h
    obtain ⟨h1, h2⟩ := kcells_get ks k q h
    have e : ∀ j, (kcells (r :: ks))[j + 2]? = (kcells ks)[j]? := fun j => rfl
    rw [show (k + 1) * 2 = k * 2 + 2 by omega, show k * 2 + 2 + 1 = (k * 2 + 1) + 2 by omega, e, e]
    exact ⟨h1, h2⟩

/-- behind the append of one kept block -/
theorem kp_push {W wr w2 w4 : World} {kv kv' sl : Value} {ks : List (Blk × Value)} {b : Blk} {o1 o2 : Obj} (H : Kp W wr kv ks) (hW : W.heap.size ≤ wr.heap.size) (hc : Chg [] wr w2) (hr : w2.ownsRow wr.heap.size 49 1 sl b.fs.length (words b.fs))
    (hg : ((w2.alloc o1).alloc o2).grownBy w4 kv.ownBlock) (hown : w4.ownsRow W.heap.size 87 2 kv' (ks.length + 1) (kcells ks ++ [.int .i64 ((b.tag : Nat) : Int), sl])) :
    Kp W w4 kv' (ks ++ [(b, sl)]) ∧ Chg kv.ownBlock.toList wr w4 ∧ w4.heap[w2.heap.size]? = some o1 := by
  have c2 : Chg kv.ownBlock.toList wr w2 := hc.mono (by simp)
  have c4 : Chg kv.ownBlock.toList w2 w4 := (((Chg.refl _ w2).alloc o1).alloc o2).grown hg (fun k hk => .inl (by rw [hk]; simp))
  have hk2 := ownsRow_chg H.row hc (by simp)
  refine ⟨⟨?_, ?_⟩, c2.trans c4, ?_⟩
  · have e : kcells (ks ++ [(b, sl)]) = kcells ks ++ [.int .i64 ((b.tag : Nat) : Int), sl] := by simp [kcells]
    rw [e, List.length_append, List.length_singleton]
    exact hown
  · intro q hq
    rw [List.mem_append] at hq
    rcases hq with hq | hq
    · exact row_keep (H.each q hq) (Nat.le_refl _) (c2.trans c4) (own_apart H.row (by decide))
    · simp only [List.mem_singleton] at hq
      subst hq
      exact row_keep (own_low hr hW) (Nat.le_refl _) c4 (own_apart hk2 (by decide))
  · have hs1 := size_alloc w2 o1
    have hs2 := size_alloc (w2.alloc o1) o2
    rw [hg.block w2.heap.size (by omega) ?_, Below.heap_alloc _ _ _ (by omega)]
    · exact heap_alloc_new w2 o1
    · intro e
      have := (hk2.lt _ e.symm).2
      omega

theorem info_block2 : (Try.prog.info? 87).map (fun i => (i.zero, i.size, i.bytes)) = some (some (.agg #[.int .i64 0, .slice none 0 0]), 2, 32) := by kernel_rfl

end Go.Proofs.Ytleoedjjepkhgaa
