import Derived.Test.YtleoedjjepkhgaaSearch
/- How the program's arena lies in memory. -/
namespace Go.Proofs.Ytleoedjjepkhgaa
open Go.RowKit

/-! ### blocks of memory -/

theorem cell_at {w : World} {b : Nat} {cs : Array Value} {t : TypeId} {fz : Nat × Nat} (h : w.heap[b]? = some (.cells cs t fz)) {o : Nat} {v : Value} (hv : cs[o]? = some v) : w.cell? ⟨b, o, none⟩ = some v := by
  simp [World.cell?, h, hv]

theorem free_at {w : World} {b : Nat} {cs : Array Value} {t : TypeId} (h : w.heap[b]? = some (.cells cs t (0, 0))) (o : Nat) : w.frozen? ⟨b, o, none⟩ = false := by
  simp [World.frozen?, h]

theorem lt_of_heap {w : World} {b : Nat} {o : Obj} (h : w.heap[b]? = some o) : b < w.heap.size := (Array.getElem?_eq_some_iff.1 h).1

/-- only blocks of F, and new ones, may have turned -/
structure Chg (F : List Nat) (w w' : World) : Prop where
  os : w'.os = w.os
  tape : w'.tape = w.tape
  output : w'.output = w.output
  size : w.heap.size ≤ w'.heap.size
  block : ∀ k, k < w.heap.size → k ∉ F → w'.heap[k]? = w.heap[k]?

theorem Chg.refl (F : List Nat) (w : World) : Chg F w w := ⟨rfl, rfl, rfl, Nat.le_refl _, fun _ _ _ => rfl⟩

theorem Chg.drewN {F : List Nat} {w w' : World} (h : Chg F w w') (n : Nat) : Chg F w (w'.drewN n) := ⟨h.os, h.tape, h.output, h.size, h.block⟩

/-- element k of a row of words -/
def wat (xs : List Int) (k : Nat) : Int := xs.getD k 0

theorem wat_get {xs : List Int} {k : Nat} (h : k < xs.length) : xs[k]? = some (wat xs k) := by
  unfold wat; rw [List.getD_eq_getElem?_getD, List.getElem?_eq_getElem h]; rfl

theorem wat_mem {xs : List Int} {k : Nat} (h : k < xs.length) : wat xs k ∈ xs := List.mem_of_getElem? (wat_get h)

def words (l : List Int) : List Value := l.map (Value.int .u64)
def nats (l : List Nat) : List Value := l.map fun (n : Nat) => Value.int .i64 (n : Int)

theorem words_get {xs : List Int} {k : Nat} (h : k < xs.length) : (words xs)[k]? = some (.int .u64 (wat xs k)) := by
  unfold words; rw [List.getElem?_map, wat_get h]; rfl

theorem nats_get {xs : List Nat} {k : Nat} (h : k < xs.length) : (nats xs)[k]? = some (.int .i64 ((nth xs k : Nat) : Int)) := by
  unfold nats; rw [List.getElem?_map, nth_get h]; rfl

def Wd (x : Int) : Prop := 0 ≤ x ∧ x < 18446744073709551616

/-! ### the arena -/

def tagOk (t : Nat) : Prop := t ≤ 199 ∨ t = 200 ∨ t = 202

structure Blk.ok (b : Blk) : Prop where
  tag : tagOk b.tag
  size : b.fs.length ≤ 4096
  words : ∀ x ∈ b.fs, Wd x

def St.starts (S : St) : List Nat := (List.range S.L.length).map S.pos

theorem starts_length (S : St) : S.starts.length = S.L.length := by simp [St.starts]

theorem starts_nth (S : St) {k : Nat} (h : k < S.L.length) : nth S.starts k = S.pos k := by
  simp [nth, St.starts, h]

theorem pos_lt {S : St} {i j : Nat} (hij : i < j) (hj : j < S.L.length) : S.pos i + (S.blk i).fs.length < S.pos j := by
  have h1 := span_take_succ S.L i (S.blk i) (blk_get (by omega))
  have h2 : span (S.L.take (i + 1)) ≤ span (S.L.take j) := by
    have := span_take_le (S.L.take j) (i + 1)
    rw [List.take_take, Nat.min_eq_left (by omega)] at this
    exact this
  unfold St.pos
  omega

theorem starts_rising (S : St) : S.starts.Pairwise (· < ·) := by
  rw [List.pairwise_iff_getElem]
  intro i j hi hj hij
  rw [starts_length] at hi hj
  have := pos_lt hij hj
  simp only [St.starts, List.getElem_map, List.getElem_range]
  omega

/-- what the cells hold of the blocks -/
structure Cells (cs : List Int) (S : St) : Prop where
  head : ∀ k, k < S.L.length → wat cs (S.pos k - 1) = hd (S.blk k).tag (S.blk k).fs.length
  field : ∀ k, k < S.L.length → ∀ j, j < (S.blk k).fs.length → wat cs (S.pos k + j) = wat (S.blk k).fs j

structure AM (w : World) (p h c : Nat) (sv : Value) (cs : List Int) (S : St) : Prop where
  a : w.heap[p]? = some (.cells #[.pointer (some ⟨h, 0, none⟩), sv] 66 (0, 0))
  hv : w.heap[h]? = some (.cells #[.slice (some ⟨c, 0, none⟩) (2 * S.n) (2 * S.n), .int .i64 (S.n : Int), .int .i64 (S.base : Int), .int .i64 (S.top : Int)] 91 (0, 0))
  cc : w.heap[c]? = some (.cells (words cs).toArray 49 (0, 0))
  len : cs.length = 2 * S.n
  starts : w.ownsRow 0 3 1 sv S.L.length (nats S.starts)
  cells : Cells cs S
  rng : ∀ x ∈ cs, Wd x
  ok : S.ok
  blks : ∀ b ∈ S.L, b.ok

def foot (p h c : Nat) (sv : Value) : List Nat := p :: h :: c :: sv.ownBlock.toList

/-- at p lies an arena whose state is S, in the blocks F -/
def Arena (w : World) (p : Nat) (F : List Nat) (S : St) : Prop := ∃ h c sv cs, AM w p h c sv cs S ∧ F = foot p h c sv

section
variable {w : World} {p h c : Nat} {sv : Value} {cs : List Int} {S : St}

theorem AM.cell (H : AM w p h c sv cs S) {j : Nat} (hj : j < 2 * S.n) : w.cell? ⟨c, j, none⟩ = some (.int .u64 (wat cs j)) :=
  cell_at H.cc (by have := words_get (xs := cs) (k := j) (by rw [H.len]; exact hj); simpa using this)

theorem AM.cellRng (H : AM w p h c sv cs S) {j : Nat} (hj : j < 2 * S.n) : Wd (wat cs j) := H.rng _ (wat_mem (by rw [H.len]; exact hj))

theorem AM.fields (H : AM w p h c sv cs S) : w.cell? ⟨p, 0, none⟩ = some (.pointer (some ⟨h, 0, none⟩)) ∧ w.cell? ⟨p, 1, none⟩ = some sv ∧
    w.cell? ⟨h, 0, none⟩ = some (.slice (some ⟨c, 0, none⟩) (2 * S.n) (2 * S.n)) ∧ w.cell? ⟨h, 1, none⟩ = some (.int .i64 (S.n : Int)) ∧
    w.cell? ⟨h, 2, none⟩ = some (.int .i64 (S.base : Int)) ∧ w.cell? ⟨h, 3, none⟩ = some (.int .i64 (S.top : Int)) :=
  ⟨cell_at H.a rfl, cell_at H.a rfl, cell_at H.hv rfl, cell_at H.hv rfl, cell_at H.hv rfl, cell_at H.hv rfl⟩

theorem AM.count (H : AM w p h c sv cs S) : S.L.length ≤ 32768 := by
  have h1 := H.ok.fit
  have h2 := H.ok.n3
  have : ∀ l : List Blk, l.length ≤ span l := by
    intro l
    induction l with
    | nil => simp [span]
    | cons b l ih => simp only [span, List.length_cons]; omega
  have := this S.L
  omega

theorem AM.posLe (H : AM w p h c sv cs S) {k : Nat} (hk : k < S.L.length) : S.base + 1 ≤ S.pos k ∧ S.pos k + (S.blk k).fs.length ≤ S.base + S.n ∧ S.base + S.n ≤ 2 * S.n ∧ S.n ≤ 32768 := by
  have h1 := span_take_get S.L k (S.blk k) (blk_get hk)
  have h2 := H.ok.fit
  have h3 : S.base ≤ S.n := by unfold St.base; have h7 : S.n * S.up ≤ S.n * 1 := Nat.mul_le_mul_left _ H.ok.up; omega
  have h4 := H.ok.n3
  unfold St.pos
  omega

theorem AM.blkOk (H : AM w p h c sv cs S) {k : Nat} (hk : k < S.L.length) : (S.blk k).ok := H.blks _ (List.mem_of_getElem? (blk_get hk))

/-- the starts' row: nil, or a block of its own -/
theorem AM.row (H : AM w p h c sv cs S) : (sv = .slice none 0 0 ∧ S.L.length = 0) ∨ ∃ g cap, sv = .slice (some ⟨g, 0, none⟩) S.L.length cap ∧ S.L.length ≤ cap ∧
    ∀ j, j < S.L.length → w.cell? ⟨g, j, none⟩ = some (.int .i64 ((nth S.starts j : Nat) : Int)) := by
  obtain ⟨hl, hr⟩ := H.starts
  rcases hr with hr | ⟨g, cap, cur, hv, _, hg, hnc, _, _, ht⟩
  · exact .inl hr
  · refine .inr ⟨g, cap, hv, hnc, fun j hj => ?_⟩
    have h1 := nats_get (xs := S.starts) (k := j) (by rw [starts_length]; exact hj)
    rw [← ht, List.getElem?_take] at h1
    refine cell_at hg ?_
    split at h1
    · simpa using h1
    · cases h1

theorem AM.drewN (H : AM w p h c sv cs S) (n : Nat) : AM (w.drewN n) p h c sv cs S :=
  ⟨H.a, H.hv, H.cc, H.len, H.starts, H.cells, H.rng, H.ok, H.blks⟩
end

end Go.Proofs.Ytleoedjjepkhgaa
