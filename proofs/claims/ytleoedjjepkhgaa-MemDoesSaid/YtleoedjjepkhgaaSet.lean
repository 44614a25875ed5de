import Derived.Test.YtleoedjjepkhgaaRead
/- (*Arena).Set. -/
namespace Go.Proofs.Ytleoedjjepkhgaa
open Go.RowKit

theorem heap_set {w : World} {b o : Nat} {cs : Array Value} {t : TypeId} {fz : Nat × Nat} (h : w.heap[b]? = some (.cells cs t fz)) (v : Value) :
    (w.setCell ⟨b, o, none⟩ v).heap[b]? = some (.cells (cs.setIfInBounds o v) t fz) := by
  have hlt := lt_of_heap h
  have h' : w.heap[b] = .cells cs t fz := by simpa [Array.getElem?_eq_getElem hlt] using h
  show (w.heap.modify b _)[b]? = _
  rw [Array.getElem?_eq_getElem (by simpa using hlt), Array.getElem_modify_self, h']
  rfl

theorem heap_set_ne {w : World} {b o k : Nat} (v : Value) (h : k ≠ b) : (w.setCell ⟨b, o, none⟩ v).heap[k]? = w.heap[k]? :=
  Below.heap_setCell _ _ _ _ h

theorem size_set {w : World} {a : Addr} (v : Value) : (w.setCell a v).heap.size = w.heap.size := by simp [World.setCell]

theorem Chg.set {F : List Nat} {w w' : World} (h : Chg F w w') {b o : Nat} (v : Value) (hb : b ∈ F ∨ w.heap.size ≤ b) : Chg F w (w'.setCell ⟨b, o, none⟩ v) := by
  refine ⟨h.os, h.tape, h.output, by rw [size_set]; exact h.size, fun k hk hF => ?_⟩
  rw [heap_set_ne v (fun e => by subst e; rcases hb with hb | hb; exact hF hb; omega)]
  exact h.block k hk hF

theorem words_set (cs : List Int) (o : Nat) (x : Int) : (words cs).toArray.setIfInBounds o (.int .u64 x) = (words (cs.set o x)).toArray := by
  simp [words, List.map_set]

theorem wat_set (cs : List Int) (o : Nat) (x : Int) (k : Nat) (h : o < cs.length) : wat (cs.set o x) k = if k = o then x else wat cs k := by
  unfold wat
  rw [List.getD_eq_getElem?_getD, List.getD_eq_getElem?_getD, List.getElem?_set]
  by_cases e : o = k
  · subst e; simp [h]
  · rw [if_neg e, if_neg (fun h => e h.symm)]

/-- field j of block k is x -/
def St.setF (S : St) (k j : Nat) (x : Int) : St := { S with L := S.L.set k ⟨(S.blk k).tag, (S.blk k).fs.set j x⟩ }

def St.set (S : St) (x i v : Int) : St × Int := match S.find x with
  | some p => if i < 0 ∨ (((S.blk p.1).fs.length : Nat) : Int) ≤ i then (S, 2) else (S.setF p.1 i.toNat v, 0)
  | none => (S, 6)

theorem span_same : ∀ (a b : List Blk), a.map (fun b => b.fs.length) = b.map (fun b => b.fs.length) → span a = span b := by
  intro a
  induction a with
  | nil => intro b h; cases b with
    | nil => rfl
    | cons y b => simp at h
  | cons y a ih => intro b h; cases b with
    | nil => simp at h
    | cons z b => simp at h; simp only [span, h.1, ih b h.2]

theorem setF_lens (S : St) (k j : Nat) (x : Int) : (S.setF k j x).L.map (fun b => b.fs.length) = S.L.map (fun b => b.fs.length) := by
  unfold St.setF
  dsimp only
  rw [List.map_set]
  apply List.ext_getElem
  · simp
  · intro m h1 h2
    rw [List.getElem_set]
    split
    · rename_i e
      subst e
      simp at h2
      simp [St.blk, h2]
    · rfl

theorem setF_len (S : St) (k j : Nat) (x : Int) : (S.setF k j x).L.length = S.L.length := by simp [St.setF]

theorem setF_pos (S : St) (k j : Nat) (x : Int) (m : Nat) : (S.setF k j x).pos m = S.pos m := by
  unfold St.pos
  have : span ((S.setF k j x).L.take m) = span (S.L.take m) := span_same _ _ (by rw [List.map_take, List.map_take, setF_lens])
  rw [this]
  rfl

theorem setF_span (S : St) (k j : Nat) (x : Int) : span (S.setF k j x).L = span S.L := span_same _ _ (setF_lens S k j x)

theorem setF_blk (S : St) (k j : Nat) (x : Int) (m : Nat) (hk : k < S.L.length) : (S.setF k j x).blk m = if m = k then ⟨(S.blk k).tag, (S.blk k).fs.set j x⟩ else S.blk m := by
  unfold St.setF
  conv => lhs; unfold St.blk
  dsimp only
  rw [List.getD_eq_getElem?_getD, List.getElem?_set]
  by_cases e : k = m
  · subst e; rw [if_pos rfl, if_pos hk, if_pos rfl]; rfl
  · rw [if_neg e, if_neg (fun h => e h.symm)]
    unfold St.blk
    rw [List.getD_eq_getElem?_getD]

theorem setF_starts (S : St) (k j : Nat) (x : Int) : (S.setF k j x).starts = S.starts := by
  unfold St.starts
  rw [setF_len]
  exact List.map_congr_left fun m _ => setF_pos S k j x m

theorem setF_top (S : St) (k j : Nat) (x : Int) : (S.setF k j x).top = S.top := by
  unfold St.top; rw [setF_span]; rfl

theorem setF_ok {S : St} (h : S.ok) (k j : Nat) (x : Int) : (S.setF k j x).ok := ⟨h.n2, h.n3, h.up, by rw [setF_span]; exact h.fit⟩

theorem mem_set_wd {l : List Int} (h : ∀ x ∈ l, Wd x) (j : Nat) {v : Int} (hv : Wd v) : ∀ x ∈ l.set j v, Wd x := by
  intro x hx
  rcases List.mem_or_eq_of_mem_set hx with h1 | h1
  · exact h x h1
  · exact h1 ▸ hv

theorem setF_blks {S : St} (h : ∀ b ∈ S.L, b.ok) (k j : Nat) {v : Int} (hv : Wd v) (hk : k < S.L.length) : ∀ b ∈ (S.setF k j v).L, b.ok := by
  intro b hb
  have hbk : (S.blk k).ok := h _ (List.mem_of_getElem? (blk_get hk))
  rcases List.mem_or_eq_of_mem_set hb with h1 | h1
  · exact h b h1
  · subst h1; exact ⟨hbk.tag, by simpa using hbk.size, mem_set_wd hbk.words j hv⟩

theorem cells_set {cs : List Int} {S : St} (H : Cells cs S) {k j : Nat} (hk : k < S.L.length) (hj : j < (S.blk k).fs.length) (hin : S.pos k + j < cs.length) (x : Int) :
    Cells (cs.set (S.pos k + j) x) (S.setF k j x) := by
  have order : ∀ m, m < S.L.length → m ≠ k → S.pos m + (S.blk m).fs.length < S.pos k ∨ S.pos k + (S.blk k).fs.length < S.pos m := by
    intro m hm e
    rcases Nat.lt_or_gt_of_ne e with h | h
    · exact .inl (pos_lt h hk)
    · exact .inr (pos_lt h hm)
  have h1 : ∀ m, 1 ≤ S.pos m := by intro m; unfold St.pos; omega
  constructor
  · intro m hm
    rw [setF_len] at hm
    rw [setF_pos, wat_set _ _ _ _ hin, setF_blk _ _ _ _ _ hk]
    by_cases e : m = k
    · subst e
      rw [if_neg (by have := h1 m; omega), if_pos rfl, H.head m hm]
      simp
    · rw [if_neg (by rcases order m hm e with o | o <;> (have := h1 m; omega)), if_neg e, H.head m hm]
  · intro m hm i hi
    rw [setF_len] at hm
    rw [setF_blk _ _ _ _ _ hk] at hi ⊢
    rw [setF_pos, wat_set _ _ _ _ hin]
    by_cases e : m = k
    · subst e
      rw [if_pos rfl] at hi ⊢
      rw [wat_set _ _ _ _ hj]
      simp only [List.length_set] at hi
      by_cases e2 : i = j
      · subst e2; rw [if_pos rfl, if_pos rfl]
      · rw [if_neg (by omega), if_neg e2, H.field m hm i hi]
    · rw [if_neg e] at hi ⊢
      rw [if_neg (by rcases order m hm e with o | o <;> omega), H.field m hm i hi]

section
variable {w : World} {p h c : Nat} {sv : Value} {cs : List Int} {S : St}

theorem row_ne {g : Nat} {cur : Array Value} {e t : TypeId} {fz : Nat × Nat} {k : Nat} {o : Array Value} (hg : w.heap[g]? = some (.cells cur e fz)) (hk : w.heap[k]? = some (.cells o t (0, 0))) (hne : e ≠ t) : g ≠ k := by
  intro e; subst e; rw [hg] at hk; cases hk; exact hne rfl

/-- a row that lies in another block stays -/
theorem ownsRow_set {base : Nat} {e : TypeId} {size : Nat} {v : Value} {n : Nat} {xs : List Value} (H : w.ownsRow base e size v n xs) {b o : Nat} (hb : v.ownBlock ≠ some b) (u : Value) : (w.setCell ⟨b, o, none⟩ u).ownsRow base e size v n xs :=
  ownsRow_setCell_other H hb u

theorem AM.starts_ne (H : AM w p h c sv cs S) {k : Nat} {o : Array Value} {t : TypeId} (hk : w.heap[k]? = some (.cells o t (0, 0))) (ht : 3 ≠ t) : sv.ownBlock ≠ some k := by
  obtain ⟨_, hr⟩ := H.starts
  rcases hr with ⟨rfl, _⟩ | ⟨g, cap, cur, rfl, _, hg, _⟩
  · simp [Value.ownBlock]
  · simp only [Value.ownBlock]
    intro e
    exact row_ne hg hk ht (by simpa using e)

theorem AM.set (H : AM w p h c sv cs S) {k j : Nat} (hk : k < S.L.length) (hj : j < (S.blk k).fs.length) {x : Int} (hx : Wd x) :
    AM (w.setCell ⟨c, S.pos k + j, none⟩ (.int .u64 x)) p h c sv (cs.set (S.pos k + j) x) (S.setF k j x) := by
  have hb := H.bounds hk
  have hpc : p ≠ c := row_ne H.a H.cc (by decide)
  have hhc : h ≠ c := row_ne H.hv H.cc (by decide)
  refine ⟨?_, ?_, ?_, by rw [List.length_set]; exact H.len, ?_, cells_set H.cells hk hj (by rw [H.len]; omega) x, ?_, setF_ok H.ok k j x, setF_blks H.blks k j hx hk⟩
  · rw [heap_set_ne _ hpc]; exact H.a
  · rw [heap_set_ne _ hhc]; have := H.hv; rw [← setF_top S k j x] at this; exact this
  · rw [heap_set H.cc, words_set]
  · rw [setF_starts, setF_len]; exact ownsRow_set H.starts (H.starts_ne H.cc (by decide)) _
  · exact mem_set_wd H.rng _ hx

set_option maxHeartbeats 1000000 in
theorem set_am (H : AM w p h c sv cs S) (x i v : Int) (h0 : 0 ≤ x) (h1 : x < 18446744073709551616) (hv : Wd v) :
    Calls Try.prog 34 #[.pointer (some ⟨p, 0, none⟩), .int .u64 x, .int .i64 i, .int .u64 v] w fun e w' =>
      e = .returned (.int .i64 (S.set x i v).2) ∧ Chg [c] w w' ∧ ∃ cs', AM w' p h c sv cs' (S.set x i v).1 := by
  have hf := field_am H x i h0 h1
  obtain ⟨f1, f2, f3, f4, f5, f6⟩ := H.fields
  unfold St.fld at hf
  unfold St.set
  clear f2 f4 f5 f6
  cases hx : S.find x with
  | none =>
    rw [hx] at hf
    go_enter Try.func34, Try.ntmps34
    go_wp2_with (go_at_call 51; refine hf.mono ?_; rintro e w' ⟨rfl, ⟨n, rfl⟩⟩)
    go_ret
    exact ⟨rfl, (Chg.refl _ _).drewN _, cs, H.drewN _⟩
  | some q =>
    rw [hx] at hf
    have hb := H.bounds (find_lt hx)
    dsimp only at hf ⊢
    by_cases c1 : i < 0 ∨ (((S.blk q.1).fs.length : Nat) : Int) ≤ i
    · rw [if_pos c1] at hf ⊢
      clear c1
      go_enter Try.func34, Try.ntmps34
      go_wp2_with (go_at_call 51; refine hf.mono ?_; rintro e w' ⟨rfl, ⟨n, rfl⟩⟩)
      go_ret
      exact ⟨rfl, (Chg.refl _ _).drewN _, cs, H.drewN _⟩
    · rw [if_neg c1] at hf ⊢
      obtain ⟨j, rfl⟩ := Int.eq_ofNat_of_zero_le (show 0 ≤ i by omega)
      have hc := H.fieldCell (find_lt hx) (j := j) (by omega)
      rw [Int.toNat_natCast]
      have hj : S.pos q.1 + j < 2 * S.n := by omega
      have hz := free_at H.cc (S.pos q.1 + j)
      have fin : ∀ n, AM ((w.drewN n).setCell ⟨c, S.pos q.1 + j, none⟩ (.int .u64 v)) p h c sv (cs.set (S.pos q.1 + j) v) (S.setF q.1 j v) := fun n => (H.drewN n).set (find_lt hx) (by omega) hv
      have FIN := Lib.hid fin
      clear c1 fin
      go_enter Try.func34, Try.ntmps34
      go_wp2_with (go_at_call 51; refine hf.mono ?_; rintro e w' ⟨rfl, ⟨n, rfl⟩⟩)
      go_ret
      exact ⟨rfl, ((Chg.refl _ _).drewN _).set _ (by simp), _, FIN.out _⟩
end

end Go.Proofs.Ytleoedjjepkhgaa
