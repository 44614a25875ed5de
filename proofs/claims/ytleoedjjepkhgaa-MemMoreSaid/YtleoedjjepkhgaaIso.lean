import Derived.Test.YtleoedjjepkhgaaPlay
/- Layer 4, plain: where blocks lie changes nothing: the same play of a graph whose blocks never move. -/
namespace Go.Proofs.Ytleoedjjepkhgaa

/-- a number's word, or a node -/
abbrev AW := Sum Int Nat

structure Nod where
  tag : Nat
  fs : List AW

def nod (G : List Nod) (i : Nat) : Nod := G.getD i ⟨0, []⟩

/-- what a word is, where block k is node f k -/
def dec (S : St) (f : Nat → Nat) (x : Int) : AW := match S.find x with
  | some p => .inr (f p.1)
  | none => .inl x

def Okw (S : St) (x : Int) : Prop := x % 2 = 1 ∨ ∃ i, i < S.L.length ∧ x = ptr (S.pos i)

structure Rel (S : St) (held : List Int) (G : List Nod) (gh : List AW) (f : Nat → Nat) : Prop where
  ok : S.ok
  inj : ∀ i j, i < S.L.length → j < S.L.length → f i = f j → i = j
  rng : ∀ i, i < S.L.length → f i < G.length
  nods : ∀ i, i < S.L.length → nod G (f i) = ⟨(S.blk i).tag, (S.blk i).fs.map (dec S f)⟩
  no : ∀ i, i < S.L.length → (S.blk i).tag ≠ 202
  okf : ∀ i, i < S.L.length → ∀ x ∈ (S.blk i).fs, Okw S x
  hld : gh = held.map (dec S f)
  okh : ∀ x ∈ held, Okw S x

theorem find_at {S : St} (hS : S.ok) {i : Nat} (hi : i < S.L.length) : S.find (ptr (S.pos i)) = some (i, 0) := by
  have h1 := pos_le hS hi
  have h2 : addr (ptr (S.pos i)) = S.pos i := addr_ptr (by omega)
  have h3 := blk_get hi
  rw [find_iff]
  exact ⟨by rw [h2]; unfold St.pos; omega, S.blk i, h3, by omega, .inl rfl⟩

theorem okw_cases {S : St} (hS : S.ok) {x : Int} (h : Okw S x) : (x % 2 = 1 ∧ S.find x = none) ∨ ∃ i, i < S.L.length ∧ x = ptr (S.pos i) ∧ S.find x = some (i, 0) := by
  rcases h with h | ⟨i, hi, rfl⟩
  · exact .inl ⟨h, find_odd S x h⟩
  · exact .inr ⟨i, hi, rfl, find_at hS hi⟩

/-! ### what is met -/

def meetA (out : List Nat) : AW → List Nat
  | .inl _ => out
  | .inr j => if j ∈ out then out else out ++ [j]

def outsA (G : List Nod) (roots : List AW) : Nat → List Nat
  | 0 => roots.foldl meetA []
  | k + 1 =>
    match (outsA G roots k)[k]? with
    | none => outsA G roots k
    | some i => (nod G i).fs.foldl meetA (outsA G roots k)

def spanA (G : List Nod) : List Nat → Nat
  | [] => 0
  | i :: l => 1 + (nod G i).fs.length + spanA G l

def cellsA (G : List Nod) (roots : List AW) : Nat := spanA G (outsA G roots G.length)

section
variable {S : St} {held : List Int} {G : List Nod} {gh : List AW} {f : Nat → Nat}

theorem mem_map_f (H : Rel S held G gh f) {l : List Nat} (hl : ∀ i ∈ l, i < S.L.length) {i : Nat} (hi : i < S.L.length) : f i ∈ l.map f ↔ i ∈ l := by
  constructor
  · intro h
    obtain ⟨j, hj, e⟩ := List.mem_map.1 h
    rw [← H.inj j i (hl j hj) hi e]
    exact hj
  · exact List.mem_map_of_mem

theorem meet_map (H : Rel S held G gh f) {l : List Nat} (hl : Good S l) {x : Int} (hx : Okw S x) : (meet S l x).map f = meetA (l.map f) (dec S f x) := by
  unfold meet dec
  rcases okw_cases H.ok hx with ⟨_, h⟩ | ⟨i, hi, _, h⟩
  · rw [h]; rfl
  · rw [h]
    dsimp only [meetA]
    by_cases hm : i ∈ l
    · rw [if_pos hm, if_pos ((mem_map_f H hl.lt hi).2 hm)]
    · rw [if_neg hm, if_neg (fun h => hm ((mem_map_f H hl.lt hi).1 h))]
      simp

theorem meets_map (H : Rel S held G gh f) : ∀ (ws : List Int) {l : List Nat}, Good S l → (∀ x ∈ ws, Okw S x) → (ws.foldl (meet S) l).map f = (ws.map (dec S f)).foldl meetA (l.map f)
  | [], _, _, _ => rfl
  | x :: ws, l, hl, hx => by
    have h1 := meet_map H hl (hx x (by simp))
    have h2 := meets_map H ws (good_meet hl x) (fun y hy => hx y (by simp [hy]))
    simp only [List.foldl_cons, List.map_cons]
    rw [h2, h1]

theorem outs_map (H : Rel S held G gh f) {roots : List Int} (hr : ∀ x ∈ roots, Okw S x) (k : Nat) : (outs S roots k).map f = outsA G (roots.map (dec S f)) k := by
  induction k with
  | zero => exact meets_map H roots ⟨List.nodup_nil, by simp⟩ hr
  | succ k ih =>
    have hg := good_outs S roots k
    show (match (outs S roots k)[k]? with | none => outs S roots k | some i => (S.blk i).words.foldl (meet S) (outs S roots k)).map f = (match (outsA G (roots.map (dec S f)) k)[k]? with | none => outsA G (roots.map (dec S f)) k | some i => (nod G i).fs.foldl meetA (outsA G (roots.map (dec S f)) k))
    rw [← ih, List.getElem?_map]
    cases hx : (outs S roots k)[k]? with
    | none => rfl
    | some i =>
      have hi : i < S.L.length := hg.lt i (List.mem_of_getElem? hx)
      dsimp only [Option.map]
      rw [H.nods i hi]
      have hw : (S.blk i).words = (S.blk i).fs := by unfold Blk.words; rw [if_neg (H.no i hi)]
      rw [hw]
      exact meets_map H _ hg (H.okf i hi)

theorem len_le (H : Rel S held G gh f) : S.L.length ≤ G.length := by
  have h1 : ((List.range S.L.length).map f).Nodup := by
    unfold List.Nodup
    rw [List.pairwise_map]
    exact List.Pairwise.imp_of_mem (fun {a b} ha hb hab e => hab (H.inj a b (List.mem_range.1 ha) (List.mem_range.1 hb) e)) List.nodup_range
  have h2 := nodup_le G.length _ h1 (fun i hi => by
    obtain ⟨j, hj, rfl⟩ := List.mem_map.1 hi
    exact H.rng j (List.mem_range.1 hj))
  simpa using h2

theorem outs_more (S : St) (roots : List Int) {m : Nat} (hm : S.L.length ≤ m) : outs S roots m = S.reach roots :=
  outs_stop S roots (good_outs S roots _).length_le m hm

theorem span_map (H : Rel S held G gh f) : ∀ l : List Nat, (∀ i ∈ l, i < S.L.length) → span (l.map S.blk) = spanA G (l.map f)
  | [], _ => rfl
  | i :: l, h => by
    simp only [List.map_cons, span, spanA]
    rw [H.nods i (h i (by simp)), span_map H l (fun j hj => h j (by simp [hj]))]
    simp

theorem cells_map (H : Rel S held G gh f) {roots : List Int} (hr : ∀ x ∈ roots, Okw S x) : S.cells roots = cellsA G (roots.map (dec S f)) := by
  unfold St.cells cellsOf cellsA
  rw [← outs_map H hr, outs_more S roots (len_le H)]
  exact span_map H _ (good_reach S roots).lt

/-! ### a collection -/

theorem dec_mv (H : Rel S held G gh f) {x : Int} (hx : Okw S x) (hin : ∀ i d, S.find x = some (i, d) → i ∈ S.reach held) :
    dec (S.coll held) (fun k => f ((S.reach held).getD k 0)) (mv S (S.reach held) x) = dec S f x ∧ Okw (S.coll held) (mv S (S.reach held) x) := by
  have hg := good_reach S held
  rcases okw_cases H.ok hx with ⟨h1, h⟩ | ⟨i, hi, rfl, h⟩
  · rw [mv_none h]
    refine ⟨?_, .inl h1⟩
    unfold dec
    rw [h, find_odd _ _ h1]
  · have hm := hin i 0 h
    obtain ⟨hk, hik⟩ := idx_get hm
    have h2 : (S.coll held).find (mv S (S.reach held) (ptr (S.pos i))) = some ((S.reach held).idxOf i, 0) := find_moved H.ok hg h hm
    refine ⟨?_, .inr ⟨(S.reach held).idxOf i, by rw [coll_len]; exact hk, ?_⟩⟩
    · unfold dec
      rw [h2, h]
      dsimp only
      rw [List.getD_eq_getElem?_getD, List.getElem?_eq_getElem hk, hik]
      rfl
    · rw [mv_lead h]
      have := moved_pos S (S.reach held) ((S.reach held).idxOf i)
      show ptr _ = ptr ((moved S (S.reach held)).pos _)
      rw [this]
      rfl

theorem Rel.coll (H : Rel S held G gh f) : Rel (S.coll held) (S.now held) G gh (fun k => f ((S.reach held).getD k 0)) := by
  have hg := good_reach S held
  have hlt : ∀ k, k < (S.coll held).L.length → ∃ h : k < (S.reach held).length, (S.reach held).getD k 0 = (S.reach held)[k] ∧ (S.reach held)[k] < S.L.length := by
    intro k hk
    rw [coll_len] at hk
    exact ⟨hk, by rw [List.getD_eq_getElem?_getD, List.getElem?_eq_getElem hk]; rfl, hg.lt _ (List.getElem_mem hk)⟩
  have hword : ∀ i, i ∈ S.reach held → ∀ x ∈ (S.blk i).fs, ∀ j d, S.find x = some (j, d) → j ∈ S.reach held := by
    intro i hi x hx j d h
    refine field_mem hi (w := x) ?_ h
    unfold Blk.words
    rw [if_neg (H.no i (hg.lt i hi))]
    exact hx
  refine ⟨coll_ok H.ok held, ?_, ?_, ?_, ?_, ?_, ?_, ?_⟩
  · intro i j hi hj e
    obtain ⟨h1, e1, l1⟩ := hlt i hi
    obtain ⟨h2, e2, l2⟩ := hlt j hj
    rw [e1, e2] at e
    exact (List.getElem_inj hg.nodup).1 (H.inj _ _ l1 l2 e)
  · intro i hi
    obtain ⟨h1, e1, l1⟩ := hlt i hi
    rw [e1]
    exact H.rng _ l1
  · intro i hi
    obtain ⟨h1, e1, l1⟩ := hlt i hi
    rw [e1, H.nods _ l1, coll_blk h1]
    unfold mvB
    rw [if_neg (H.no _ l1)]
    congr 1
    rw [List.map_map]
    apply List.map_congr_left
    intro x hx
    exact (dec_mv H (H.okf _ l1 x hx) (hword _ (List.getElem_mem h1) x hx)).1.symm
  · intro i hi
    obtain ⟨h1, e1, l1⟩ := hlt i hi
    rw [coll_tag h1]
    exact H.no _ l1
  · intro i hi x hx
    obtain ⟨h1, e1, l1⟩ := hlt i hi
    rw [coll_blk h1] at hx
    unfold mvB at hx
    rw [if_neg (H.no _ l1)] at hx
    obtain ⟨y, hy, rfl⟩ := List.mem_map.1 hx
    exact (dec_mv H (H.okf _ l1 y hy) (hword _ (List.getElem_mem h1) y hy)).2
  · rw [H.hld]
    unfold St.now
    rw [List.map_map]
    apply List.map_congr_left
    intro x hx
    exact (dec_mv H (H.okh x hx) (fun j d h => root_mem hx h)).1.symm
  · intro x hx
    obtain ⟨y, hy, rfl⟩ := List.mem_map.1 hx
    exact (dec_mv H (H.okh y hy) (fun j d h => root_mem hy h)).2

/-! ### a block more -/

theorem dec_alloc (hS : S.ok) {t m : Nat} (hf : S.top + m + 1 ≤ S.base + S.n) {N : Nat} {x : Int} (hx : Okw S x) :
    dec (S.alloc t m) (fun k => if k = S.L.length then N else f k) x = dec S f x ∧ Okw (S.alloc t m) x := by
  have hS' := alloc_ok hS (t := t) hf
  rcases okw_cases hS hx with ⟨h1, h⟩ | ⟨i, hi, rfl, h⟩
  · refine ⟨?_, .inl h1⟩
    unfold dec
    rw [h, find_odd _ _ h1]
  · have hi' : i < (S.alloc t m).L.length := by rw [alloc_len]; omega
    have hp := alloc_pos S t m (k := i) (by omega)
    have h2 := find_at hS' hi'
    rw [hp] at h2
    refine ⟨?_, .inr ⟨i, hi', by rw [hp]⟩⟩
    unfold dec
    rw [h, h2]
    dsimp only
    rw [if_neg (by omega)]

theorem Rel.alloc (H : Rel S held G gh f) {t m : Nat} (hf : S.top + m + 1 ≤ S.base + S.n) (ht : t ≠ 202) :
    Rel (S.alloc t m) held (G ++ [⟨t, List.replicate m (.inl 1)⟩]) gh (fun k => if k = S.L.length then G.length else f k) ∧
      dec (S.alloc t m) (fun k => if k = S.L.length then G.length else f k) (2 * ((S.top : Int) + 1)) = .inr G.length ∧ Okw (S.alloc t m) (2 * ((S.top : Int) + 1)) := by
  have hS' := alloc_ok H.ok (t := t) hf
  have hl := alloc_len S t m
  have hold : ∀ i, i < (S.alloc t m).L.length → i ≠ S.L.length → i < S.L.length := fun i h1 h2 => by rw [hl] at h1; omega
  have hone : dec (S.alloc t m) (fun k => if k = S.L.length then G.length else f k) 1 = .inl 1 := by
    unfold dec
    rw [find_odd _ _ (by decide)]
  refine ⟨⟨hS', ?_, ?_, ?_, ?_, ?_, ?_, ?_⟩, ?_⟩
  · intro i j hi hj e
    by_cases c1 : i = S.L.length
    · by_cases c2 : j = S.L.length
      · omega
      · simp only [c1, if_true, c2, if_false] at e
        have := H.rng j (hold j hj c2)
        omega
    · by_cases c2 : j = S.L.length
      · simp only [c1, if_false, c2, if_true] at e
        have := H.rng i (hold i hi c1)
        omega
      · simp only [c1, c2, if_false] at e
        exact H.inj i j (hold i hi c1) (hold j hj c2) e
  · intro i hi
    rw [List.length_append, List.length_singleton]
    by_cases c1 : i = S.L.length
    · simp only [c1, if_true]; omega
    · simp only [c1, if_false]
      have := H.rng i (hold i hi c1)
      omega
  · intro i hi
    by_cases c1 : i = S.L.length
    · subst c1
      simp only [if_true]
      rw [alloc_new]
      unfold nod
      rw [List.getD_eq_getElem?_getD, List.getElem?_append_right (by omega)]
      simp only [Nat.sub_self, List.getElem?_cons_zero, Option.getD_some, List.map_replicate, hone]
    · have hi' := hold i hi c1
      simp only [c1, if_false]
      rw [alloc_blk S t m hi']
      have h1 := H.nods i hi'
      have h2 : nod (G ++ [⟨t, List.replicate m (.inl 1)⟩]) (f i) = nod G (f i) := by
        unfold nod
        rw [List.getD_eq_getElem?_getD, List.getD_eq_getElem?_getD, List.getElem?_append_left (H.rng i hi')]
      rw [h2, h1]
      congr 1
      apply List.map_congr_left
      intro x hx
      exact (dec_alloc H.ok hf (H.okf i hi' x hx)).1.symm
  · intro i hi
    by_cases c1 : i = S.L.length
    · subst c1; rw [alloc_new]; exact ht
    · rw [alloc_blk S t m (hold i hi c1)]; exact H.no i (hold i hi c1)
  · intro i hi x hx
    by_cases c1 : i = S.L.length
    · subst c1
      rw [alloc_new] at hx
      have := List.eq_of_mem_replicate hx
      subst this
      exact .inl (by decide)
    · rw [alloc_blk S t m (hold i hi c1)] at hx
      exact (dec_alloc (f := f) (N := 0) H.ok hf (H.okf i (hold i hi c1) x hx)).2
  · rw [H.hld]
    apply List.map_congr_left
    intro x hx
    exact (dec_alloc H.ok hf (H.okh x hx)).1.symm
  · intro x hx
    exact (dec_alloc (f := f) (N := 0) H.ok hf (H.okh x hx)).2
  · have hp : (S.alloc t m).pos S.L.length = S.top + 1 := by rw [alloc_pos S t m (Nat.le_refl _), pos_len]
    have e : 2 * ((S.top : Int) + 1) = ptr ((S.alloc t m).pos S.L.length) := by rw [hp]; unfold ptr; push_cast; rfl
    have hi : S.L.length < (S.alloc t m).L.length := by omega
    refine ⟨?_, .inr ⟨_, hi, e⟩⟩
    rw [e]
    unfold dec
    rw [find_at hS' hi]
    simp

/-! ### what is held turns -/

theorem Rel.hold (H : Rel S held G gh f) {x : Int} (hx : Okw S x) (c : Nat) : Rel S (held.set c x) G (gh.set c (dec S f x)) f :=
  ⟨H.ok, H.inj, H.rng, H.nods, H.no, H.okf, by rw [H.hld, List.map_set], fun y hy => by
    rcases List.mem_or_eq_of_mem_set hy with h | rfl
    · exact H.okh y h
    · exact hx⟩

/-! ### a field turns -/

theorem dec_setF (hS : S.ok) {k j : Nat} {v x : Int} (_hk : k < S.L.length) (hx : Okw S x) : dec (S.setF k j v) f x = dec S f x ∧ Okw (S.setF k j v) x := by
  have hS' := setF_ok hS k j v
  rcases okw_cases hS hx with ⟨h1, h⟩ | ⟨i, hi, rfl, h⟩
  · refine ⟨?_, .inl h1⟩
    unfold dec
    rw [h, find_odd _ _ h1]
  · have hi' : i < (S.setF k j v).L.length := by rw [setF_len]; exact hi
    have h2 := find_at hS' hi'
    rw [setF_pos] at h2
    refine ⟨?_, .inr ⟨i, hi', by rw [setF_pos]⟩⟩
    unfold dec
    rw [h, h2]

theorem Rel.setF (H : Rel S held G gh f) {k j : Nat} (hk : k < S.L.length) {v : Int} (hv : Okw S v) :
    Rel (S.setF k j v) held (G.set (f k) ⟨(nod G (f k)).tag, (nod G (f k)).fs.set j (dec S f v)⟩) gh f := by
  have hl := setF_len S k j v
  refine ⟨setF_ok H.ok k j v, ?_, ?_, ?_, ?_, ?_, ?_, ?_⟩
  · rw [hl]; exact H.inj
  · rw [hl, List.length_set]; exact H.rng
  · rw [hl]
    intro i hi
    rw [setF_blk S k j v i hk]
    by_cases c : i = k
    · subst c
      rw [if_pos rfl]
      have h1 : nod (G.set (f i) ⟨(nod G (f i)).tag, (nod G (f i)).fs.set j (dec S f v)⟩) (f i) = ⟨(nod G (f i)).tag, (nod G (f i)).fs.set j (dec S f v)⟩ := by
        conv => lhs; unfold nod
        rw [List.getD_eq_getElem?_getD, List.getElem?_set_self (H.rng i hi)]
        rfl
      rw [h1, H.nods i hi]
      dsimp only
      congr 1
      rw [← List.map_set]
      apply List.map_congr_left
      intro x hx
      refine (dec_setF H.ok hk ?_).1.symm
      rcases List.mem_or_eq_of_mem_set hx with h | rfl
      · exact H.okf i hi x h
      · exact hv
    · rw [if_neg c]
      have hne : f k ≠ f i := fun e => c (H.inj k i hk hi e).symm
      have h1 : ∀ n, nod (G.set (f k) n) (f i) = nod G (f i) := by
        intro n
        unfold nod
        rw [List.getD_eq_getElem?_getD, List.getD_eq_getElem?_getD, List.getElem?_set_ne hne]
      rw [h1, H.nods i hi]
      congr 1
      apply List.map_congr_left
      intro x hx
      exact (dec_setF H.ok hk (H.okf i hi x hx)).1.symm
  · rw [hl]
    intro i hi
    rw [setF_blk S k j v i hk]
    by_cases c : i = k
    · subst c; rw [if_pos rfl]; exact H.no i hi
    · rw [if_neg c]; exact H.no i hi
  · rw [hl]
    intro i hi x hx
    rw [setF_blk S k j v i hk] at hx
    refine (dec_setF (f := f) H.ok hk ?_).2
    by_cases c : i = k
    · subst c
      rw [if_pos rfl] at hx
      rcases List.mem_or_eq_of_mem_set hx with h | rfl
      · exact H.okf i hi x h
      · exact hv
    · rw [if_neg c] at hx
      exact H.okf i hi x hx
  · rw [H.hld]
    apply List.map_congr_left
    intro x hx
    exact (dec_setF H.ok hk (H.okh x hx)).1.symm
  · intro x hx
    exact (dec_setF (f := f) H.ok hk (H.okh x hx)).2
end

end Go.Proofs.Ytleoedjjepkhgaa
