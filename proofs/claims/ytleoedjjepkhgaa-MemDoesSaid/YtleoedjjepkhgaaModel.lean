/- The arena, what is in reach, and what moves, as plain lists: no program in sight. -/
namespace Go.Proofs.Ytleoedjjepkhgaa

structure Blk where
  tag : Nat
  fs : List Int

structure St where
  n : Nat
  up : Nat
  L : List Blk

def span : List Blk → Nat
  | [] => 0
  | b :: l => 1 + b.fs.length + span l

theorem span_append (a b : List Blk) : span (a ++ b) = span a + span b := by
  induction a with
  | nil => simp [span]
  | cons x l ih => simp only [List.cons_append, span, ih]; omega

def hd (tag size : Nat) : Int := 2 * (256 * (size : Int) + tag) + 1

def slotAt (b : Blk) (d : Nat) : Bool :=
  b.tag == 200 && decide (1 ≤ d) && decide (d < b.fs.length) && b.fs.getD (d - 1) 0 == hd 201 d

/-- where a cell, told from the first head on, leads to: the block's place and the distance -/
def lead : List Blk → Nat → Option (Nat × Nat)
  | [], _ => none
  | b :: l, r =>
    if r = 1 then some (0, 0)
    else if r ≤ b.fs.length then (if slotAt b (r - 1) then some (0, r - 1) else none)
    else (lead l (r - (1 + b.fs.length))).map fun p => (p.1 + 1, p.2)

def St.base (S : St) : Nat := S.n * S.up
def St.top (S : St) : Nat := S.base + span S.L
def St.pos (S : St) (i : Nat) : Nat := S.base + span (S.L.take i) + 1

/-- cut to 64 bits -/
def w64 (x : Int) : Int := x % 18446744073709551616
/-- a number's word; is a word a number's; its number -/
def numWord (n : Int) : Int := w64 (2 * n + 1)
def isNum (x : Int) : Bool := x % 2 == 1
def num (x : Int) : Int := if x < 9223372036854775808 then x / 2 else (x - 18446744073709551616) / 2

def ptr (a : Nat) : Int := 2 * (a : Int)
def addr (w : Int) : Nat := if w % 2 = 1 ∨ w > 4294967294 then 0 else (w / 2).toNat

def St.find (S : St) (w : Int) : Option (Nat × Nat) :=
  if addr w < S.base then none else lead S.L (addr w - S.base)

theorem slotAt_lt {b : Blk} {d : Nat} (h : slotAt b d = true) : 1 ≤ d ∧ d < b.fs.length := by
  simp only [slotAt, Bool.and_eq_true, decide_eq_true_eq] at h
  exact ⟨h.1.1.2, h.1.2⟩

theorem lead_iff (L : List Blk) : ∀ (r i d : Nat), lead L r = some (i, d) ↔ ∃ b, L[i]? = some b ∧ r = span (L.take i) + 1 + d ∧ (d = 0 ∨ slotAt b d = true) := by
  induction L with
  | nil => intro r i d; simp [lead]
  | cons b l ih =>
    intro r i d
    unfold lead
    by_cases h1 : r = 1
    · rw [if_pos h1]
      constructor
      · intro h
        simp only [Option.some.injEq, Prod.mk.injEq] at h
        obtain ⟨rfl, rfl⟩ := h
        exact ⟨b, rfl, by simp [span, h1], .inl rfl⟩
      · rintro ⟨c, hc, hr, hd⟩
        cases i with
        | zero => simp [span] at hr; simp; omega
        | succ i => simp [span] at hr; omega
    · rw [if_neg h1]
      by_cases h2 : r ≤ b.fs.length
      · rw [if_pos h2]
        constructor
        · intro h
          split at h
          · rename_i hs
            simp only [Option.some.injEq, Prod.mk.injEq] at h
            obtain ⟨rfl, rfl⟩ := h
            have := slotAt_lt hs
            exact ⟨b, rfl, by simp [span]; omega, .inr hs⟩
          · cases h
        · rintro ⟨c, hc, hr, hd⟩
          cases i with
          | zero =>
            simp at hc; subst hc
            simp [span] at hr
            rcases hd with hd | hd
            · omega
            · have e : r - 1 = d := by omega
              rw [e, if_pos hd]
          | succ i => simp [span] at hr; omega
      · rw [if_neg h2]
        cases i with
        | zero =>
          constructor
          · intro h
            cases hl : lead l (r - (1 + b.fs.length)) <;> simp [hl] at h
          · rintro ⟨c, hc, hr, hd⟩
            simp at hc; subst hc
            simp [span] at hr
            rcases hd with hd | hd
            · omega
            · have := slotAt_lt hd; omega
        | succ i =>
          have ih' := ih (r - (1 + b.fs.length)) i d
          constructor
          · intro h
            have h' : lead l (r - (1 + b.fs.length)) = some (i, d) := by
              cases hl : lead l (r - (1 + b.fs.length)) with
              | none => simp [hl] at h
              | some p => simp [hl] at h; simp [← h.1, ← h.2]
            obtain ⟨c, hc, hr, hd⟩ := ih'.1 h'
            exact ⟨c, by simpa using hc, by simp [span]; omega, hd⟩
          · rintro ⟨c, hc, hr, hd⟩
            have h' : lead l (r - (1 + b.fs.length)) = some (i, d) := ih'.2 ⟨c, by simpa using hc, by simp [span] at hr; omega, hd⟩
            rw [h']; rfl

theorem lead_zero (L : List Blk) : lead L 0 = none := by
  cases h : lead L 0 with
  | none => rfl
  | some p =>
    obtain ⟨b, hb, hr, hd⟩ := (lead_iff L 0 p.1 p.2).1 h
    omega

theorem find_iff (S : St) (w : Int) (i d : Nat) : S.find w = some (i, d) ↔
    S.base ≤ addr w ∧ ∃ b, S.L[i]? = some b ∧ addr w = S.pos i + d ∧ (d = 0 ∨ slotAt b d = true) := by
  unfold St.find
  by_cases h : addr w < S.base
  · rw [if_pos h]
    constructor
    · intro h; cases h
    · rintro ⟨h', _⟩; omega
  · rw [if_neg h, lead_iff]
    unfold St.pos
    constructor
    · rintro ⟨b, hb, hr, hd⟩; exact ⟨by omega, b, hb, by omega, hd⟩
    · rintro ⟨_, b, hb, hr, hd⟩; exact ⟨b, hb, by omega, hd⟩

theorem find_odd (S : St) (w : Int) (h : w % 2 = 1) : S.find w = none := by
  have h0 : addr w = 0 := by unfold addr; rw [if_pos (.inl h)]
  unfold St.find
  rw [h0]
  split
  · rfl
  · simp [lead_zero]

theorem find_zero (S : St) : S.find 0 = none := by
  have h0 : addr 0 = 0 := by unfold addr; simp
  unfold St.find
  rw [h0]
  split
  · rfl
  · simp [lead_zero]

theorem find_lt {S : St} {w : Int} {p : Nat × Nat} (h : S.find w = some p) : p.1 < S.L.length := by
  obtain ⟨_, b, hb, _⟩ := (find_iff S w p.1 p.2).1 h
  exact (List.getElem?_eq_some_iff.1 hb).1

/-! what is in reach -/

def meet (S : St) (out : List Nat) (w : Int) : List Nat :=
  match S.find w with
  | some p => if p.1 ∈ out then out else out ++ [p.1]
  | none => out

def St.blk (S : St) (i : Nat) : Blk := S.L.getD i ⟨0, []⟩

def Blk.words (b : Blk) : List Int := if b.tag = 202 then [] else b.fs

def outs (S : St) (roots : List Int) : Nat → List Nat
  | 0 => roots.foldl (meet S) []
  | k + 1 =>
    match (outs S roots k)[k]? with
    | none => outs S roots k
    | some i => (S.blk i).words.foldl (meet S) (outs S roots k)

def St.reach (S : St) (roots : List Int) : List Nat := outs S roots S.L.length

structure Good (S : St) (l : List Nat) : Prop where
  nodup : l.Nodup
  lt : ∀ i ∈ l, i < S.L.length

theorem good_meet {S : St} {l : List Nat} (h : Good S l) (w : Int) : Good S (meet S l w) := by
  unfold meet
  cases hf : S.find w with
  | none => exact h
  | some p =>
    have := find_lt hf
    dsimp only
    split
    · exact h
    · rename_i hn
      refine ⟨?_, ?_⟩
      · rw [List.nodup_append]
        refine ⟨h.nodup, by simp, ?_⟩
        intro a ha b hb
        simp at hb
        subst hb
        rintro rfl
        exact hn ha
      · intro i hi
        simp at hi
        rcases hi with hi | rfl
        · exact h.lt i hi
        · exact this

theorem good_meets {S : St} (ws : List Int) : ∀ {l : List Nat}, Good S l → Good S (ws.foldl (meet S) l) := by
  induction ws with
  | nil => intro l h; exact h
  | cons w ws ih => intro l h; exact ih (good_meet h w)

theorem good_outs (S : St) (roots : List Int) (k : Nat) : Good S (outs S roots k) := by
  induction k with
  | zero => exact good_meets roots ⟨List.nodup_nil, by simp⟩
  | succ k ih =>
    unfold outs
    split
    · exact ih
    · exact good_meets _ ih

theorem prefix_meet (S : St) (l : List Nat) (w : Int) : l <+: meet S l w := by
  unfold meet
  split
  · split
    · exact List.prefix_refl _
    · exact List.prefix_append _ _
  · exact List.prefix_refl _

theorem prefix_meets (S : St) (ws : List Int) : ∀ (l : List Nat), l <+: ws.foldl (meet S) l := by
  induction ws with
  | nil => intro l; exact List.prefix_refl _
  | cons w ws ih => intro l; exact (prefix_meet S l w).trans (ih _)

theorem prefix_outs_succ (S : St) (roots : List Int) (k : Nat) : outs S roots k <+: outs S roots (k + 1) := by
  conv => rhs; unfold outs
  split
  · exact List.prefix_refl _
  · exact prefix_meets S _ _

theorem prefix_outs (S : St) (roots : List Int) {k m : Nat} (h : k ≤ m) : outs S roots k <+: outs S roots m := by
  induction m with
  | zero => obtain rfl : k = 0 := by omega
            exact List.prefix_refl _
  | succ m ih =>
    by_cases e : k = m + 1
    · subst e; exact List.prefix_refl _
    · exact (ih (by omega)).trans (prefix_outs_succ S roots m)

theorem nodup_le : ∀ (n : Nat) (l : List Nat), l.Nodup → (∀ i ∈ l, i < n) → l.length ≤ n
  | 0, l, _, h => by
    cases l with
    | nil => simp
    | cons a l => exact absurd (h a (by simp)) (by omega)
  | n + 1, l, hn, h => by
    have h1 := nodup_le n (l.erase n) (hn.erase n) (fun i hi => by
      have := (List.Nodup.mem_erase_iff hn).1 hi
      have := h i this.2
      omega)
    have := List.length_erase (a := n) (l := l)
    split at this <;> omega

theorem Good.length_le {S : St} {l : List Nat} (h : Good S l) : l.length ≤ S.L.length := nodup_le _ _ h.nodup h.lt

theorem outs_stop (S : St) (roots : List Int) {k : Nat} (h : (outs S roots k).length ≤ k) : ∀ m, k ≤ m → outs S roots m = outs S roots k := by
  intro m hm
  induction m with
  | zero => obtain rfl : k = 0 := by omega
            rfl
  | succ m ih =>
    by_cases e : k = m + 1
    · subst e; rfl
    · have ih' := ih (by omega)
      show (match (outs S roots m)[m]? with | none => outs S roots m | some i => (S.blk i).words.foldl (meet S) (outs S roots m)) = _
      rw [ih', List.getElem?_eq_none (by omega)]

theorem reach_of_stop (S : St) (roots : List Int) {k : Nat} (h : (outs S roots k).length = k) : S.reach roots = outs S roots k := by
  have h1 := (good_outs S roots k).length_le
  exact outs_stop S roots (Nat.le_of_eq h) _ (by omega)

theorem good_reach (S : St) (roots : List Int) : Good S (S.reach roots) := good_outs S roots _

/-! what moves -/

def cellsOf (S : St) (l : List Nat) : Nat := span (l.map S.blk)

def St.cells (S : St) (roots : List Int) : Nat := cellsOf S (S.reach roots)

/-- where the block of place k of the list l lies in the other half -/
def npos (S : St) (g : List Nat) (k : Nat) : Nat := S.n * (1 - S.up) + span ((g.take k).map S.blk) + 1

def mv (S : St) (g : List Nat) (w : Int) : Int :=
  match S.find w with
  | none => w
  | some p => ptr (npos S g (g.idxOf p.1) + p.2)

def mvB (S : St) (g : List Nat) (b : Blk) : Blk := if b.tag = 202 then b else ⟨b.tag, b.fs.map (mv S g)⟩

def moved (S : St) (g : List Nat) : St := ⟨S.n, 1 - S.up, g.map fun i => mvB S g (S.blk i)⟩

def St.coll (S : St) (roots : List Int) : St := moved S (S.reach roots)
def St.now (S : St) (roots : List Int) : List Int := roots.map (mv S (S.reach roots))

theorem mvB_len (S : St) (g : List Nat) (b : Blk) : (mvB S g b).fs.length = b.fs.length := by
  unfold mvB; split <;> simp

theorem mvB_tag (S : St) (g : List Nat) (b : Blk) : (mvB S g b).tag = b.tag := by
  unfold mvB; split <;> simp

theorem span_mvB (S : St) (g : List Nat) : ∀ l : List Nat, span (l.map fun i => mvB S g (S.blk i)) = span (l.map S.blk)
  | [] => rfl
  | i :: l => by simp only [List.map_cons, span, mvB_len, span_mvB S g l]

theorem moved_pos (S : St) (g : List Nat) (k : Nat) : (moved S g).pos k = npos S g k := by
  unfold St.pos npos St.base moved
  simp only [← List.map_take, span_mvB]

theorem moved_top (S : St) (g : List Nat) : (moved S g).top = (moved S g).base + cellsOf S g := by
  unfold St.top cellsOf moved
  simp only [span_mvB]


/-! ## closure: what is in reach leads to what is in reach -/

theorem mem_meet_self {S : St} {l : List Nat} {w : Int} {i d : Nat} (h : S.find w = some (i, d)) : i ∈ meet S l w := by
  unfold meet; rw [h]; dsimp only; split
  · assumption
  · simp

theorem mem_meets {S : St} {w : Int} {i d : Nat} (h : S.find w = some (i, d)) : ∀ (ws : List Int) (l : List Nat), w ∈ ws → i ∈ ws.foldl (meet S) l
  | v :: ws, l, hw => by
    rcases List.mem_cons.1 hw with rfl | hw
    · exact (prefix_meets S ws _).subset (mem_meet_self h)
    · exact mem_meets h ws _ hw

theorem root_mem {S : St} {roots : List Int} {w : Int} (hw : w ∈ roots) {i d : Nat} (h : S.find w = some (i, d)) : i ∈ S.reach roots :=
  (prefix_outs S roots (Nat.zero_le _)).subset (mem_meets h roots [] hw)

theorem field_mem {S : St} {roots : List Int} {j : Nat} (hj : j ∈ S.reach roots) {w : Int} (hw : w ∈ (S.blk j).words) {i d : Nat} (h : S.find w = some (i, d)) : i ∈ S.reach roots := by
  obtain ⟨k, hk, rfl⟩ := List.mem_iff_getElem.1 hj
  have hlen := (good_reach S roots).length_le
  have hpre : ∀ m, m ≤ S.L.length → outs S roots m <+: S.reach roots := fun m hm => prefix_outs S roots hm
  -- at round k the block is there already
  have hin : k < (outs S roots k).length := by
    rcases Nat.lt_or_ge k (outs S roots k).length with h' | h'
    · exact h'
    · have := outs_stop S roots h' S.L.length (by omega)
      unfold St.reach at hk
      rw [this] at hk
      omega
  have hget : (outs S roots k)[k]? = some ((S.reach roots)[k]) := by
    have := List.prefix_iff_getElem?.1 (hpre k (by omega)) k hin
    rw [List.getElem?_eq_getElem hin, ← this, List.getElem?_eq_getElem hk]
  have hs : outs S roots (k + 1) = (S.blk (S.reach roots)[k]).words.foldl (meet S) (outs S roots k) := by
    show (match (outs S roots k)[k]? with | none => outs S roots k | some i => (S.blk i).words.foldl (meet S) (outs S roots k)) = _
    rw [hget]
  have := mem_meets h (S.blk (S.reach roots)[k]).words (outs S roots k) hw
  rw [← hs] at this
  exact (hpre (k + 1) (by omega)).subset this

/-! ## addresses -/

structure St.ok (S : St) : Prop where
  n2 : 2 ≤ S.n
  n3 : S.n ≤ 32768
  up : S.up ≤ 1
  fit : span S.L ≤ S.n

theorem addr_ptr {a : Nat} (h : a ≤ 65536) : addr (ptr a) = a := by
  unfold addr ptr
  rw [if_neg (by omega)]
  omega

theorem ptr_even (a : Nat) : ptr a % 2 = 0 := by unfold ptr; omega

theorem span_take_le (l : List Blk) (k : Nat) : span (l.take k) ≤ span l := by
  conv => rhs; rw [← List.take_append_drop k l, span_append]
  omega

theorem span_take_succ (l : List Blk) (k : Nat) (b : Blk) (h : l[k]? = some b) : span (l.take (k + 1)) = span (l.take k) + (1 + b.fs.length) := by
  rw [List.take_add_one, span_append, h]
  simp [span]

theorem span_take_get (l : List Blk) (k : Nat) (b : Blk) (h : l[k]? = some b) : span (l.take k) + 1 + b.fs.length ≤ span l := by
  have h1 := span_take_succ l k b h
  have h2 := span_take_le l (k + 1)
  omega

theorem blk_get {S : St} {i : Nat} (h : i < S.L.length) : S.L[i]? = some (S.blk i) := by
  unfold St.blk
  rw [List.getD_eq_getElem?_getD, List.getElem?_eq_getElem h]
  rfl

theorem dist_le {b : Blk} {d : Nat} (h : d = 0 ∨ slotAt b d = true) : d ≤ b.fs.length := by
  rcases h with h | h
  · omega
  · have := slotAt_lt h; omega

theorem good_span {S : St} : ∀ {l : List Nat}, Good S l → cellsOf S l ≤ span S.L := by
  -- by taking the blocks out one by one
  have key : ∀ (L : List Blk) (l : List Nat), l.Nodup → (∀ i ∈ l, i < L.length) → span (l.map fun i => L.getD i ⟨0, []⟩) ≤ span L := by
    intro L
    induction L with
    | nil => intro l hn hl
             cases l with
             | nil => simp [span]
             | cons a l => exact absurd (hl a (by simp)) (by simp)
    | cons b L ih =>
      intro l hn hl
      -- those above 0, one down
      have hperm : span (l.map fun i => (b :: L).getD i ⟨0, []⟩) = (if 0 ∈ l then 1 + b.fs.length else 0) + span (((l.erase 0).map (· - 1)).map fun i => L.getD i ⟨0, []⟩) := by
        clear ih hl
        induction l with
        | nil => simp [span]
        | cons a l ih2 =>
          have hn' := List.nodup_cons.1 hn
          have ih2' := ih2 hn'.2
          by_cases ha : a = 0
          · subst ha
            have h0 : ¬ 0 ∈ l := hn'.1
            simp only [List.map_cons, span, List.mem_cons, true_or, if_true, List.erase_cons_head]
            rw [ih2', if_neg h0, List.erase_of_not_mem h0]
            simp
          · have hbe : (a == 0) = false := by simpa using ha
            have h0 : (0 ∈ a :: l) ↔ 0 ∈ l := by simp [Ne.symm ha]
            simp only [List.map_cons, span, List.erase_cons, hbe, Bool.false_eq_true, if_false, h0]
            rw [ih2']
            have : (b :: L).getD a ⟨0, []⟩ = L.getD (a - 1) ⟨0, []⟩ := by
              obtain ⟨m, rfl⟩ : ∃ m, a = m + 1 := ⟨a - 1, by omega⟩
              simp
            rw [this]; omega
      rw [hperm]
      have hnd : ((l.erase 0).map (· - 1)).Nodup := by
        have he := hn.erase 0
        have hpos : ∀ i ∈ l.erase 0, i ≠ 0 := fun i hi => ((List.Nodup.mem_erase_iff hn).1 hi).1
        clear hperm ih hl
        generalize l.erase 0 = m at he hpos
        induction m with
        | nil => simp
        | cons x m ihm =>
          have hx := List.nodup_cons.1 he
          simp only [List.map_cons]
          refine List.nodup_cons.2 ⟨?_, ihm hx.2 (fun i hi => hpos i (by simp [hi]))⟩
          intro hmem
          obtain ⟨y, hy, e⟩ := List.mem_map.1 hmem
          have h1 := hpos x (by simp)
          have h2 := hpos y (by simp [hy])
          have : y = x := by omega
          subst this
          exact hx.1 hy
      have hlt : ∀ i ∈ (l.erase 0).map (· - 1), i < L.length := by
        intro i hi
        obtain ⟨y, hy, rfl⟩ := List.mem_map.1 hi
        have h1 := (List.Nodup.mem_erase_iff hn).1 hy
        have := hl y h1.2
        simp at this
        omega
      have := ih _ hnd hlt
      simp only [span]
      split <;> omega
  intro l h
  exact key S.L l h.nodup h.lt

theorem moved_ok {S : St} (h : S.ok) {g : List Nat} (hg : Good S g) : (moved S g).ok := by
  refine ⟨h.n2, h.n3, ?_, ?_⟩
  · show 1 - S.up ≤ 1; omega
  · show span (g.map fun i => mvB S g (S.blk i)) ≤ S.n
    rw [span_mvB]
    exact Nat.le_trans (good_span hg) h.fit

theorem npos_le {S : St} (h : S.ok) {g : List Nat} (hg : Good S g) {k : Nat} (hk : k < g.length) {d : Nat} (hd : d ≤ (S.blk g[k]).fs.length) : npos S g k + d ≤ 65536 := by
  unfold npos
  have h1 : (g.map S.blk)[k]? = some (S.blk g[k]) := by simp [hk]
  have h2 := span_take_get _ _ _ h1
  rw [List.map_take]
  have h3 : span (g.map S.blk) ≤ span S.L := good_span hg
  have h4 := h.fit
  have h5 := h.n3
  have h6 := h.up
  have h7 : S.n * (1 - S.up) ≤ S.n * 1 := Nat.mul_le_mul_left _ (by omega)
  omega

theorem base_le {S : St} (h : S.ok) : S.base ≤ 32768 := by
  unfold St.base
  have := h.n3
  have h7 : S.n * S.up ≤ S.n * 1 := Nat.mul_le_mul_left _ h.up
  omega

/-! ## a word that leads somewhere leads there behind the collection -/

theorem idx_get {g : List Nat} {i : Nat} (h : i ∈ g) : ∃ hk : g.idxOf i < g.length, g[g.idxOf i] = i :=
  ⟨List.idxOf_lt_length_iff.2 h, List.getElem_idxOf _⟩

theorem mv_slot {S : St} {g : List Nat} {b : Blk} {d : Nat} (h : slotAt b d = true) : slotAt (mvB S g b) d = true := by
  have ht : b.tag = 200 := by simp [slotAt] at h; exact h.1.1.1
  have hne : ¬ b.tag = 202 := by omega
  unfold mvB
  rw [if_neg hne]
  simp only [slotAt, Bool.and_eq_true, decide_eq_true_eq, List.length_map] at h ⊢
  refine ⟨⟨h.1.1, h.1.2⟩, ?_⟩
  have hlt : d - 1 < b.fs.length := by omega
  have h2 : b.fs.getD (d - 1) 0 = hd 201 d := by simpa using h.2
  rw [List.getD_eq_getElem?_getD, List.getElem?_map]
  rw [List.getD_eq_getElem?_getD] at h2
  rw [List.getElem?_eq_getElem hlt] at h2 ⊢
  simp only [Option.getD_some, Option.map_some] at h2 ⊢
  rw [h2]
  have : S.find (hd 201 d) = none := find_odd S _ (by unfold hd; omega)
  unfold mv
  rw [this]
  simp

theorem moved_blk {S : St} {g : List Nat} {k : Nat} (hk : k < g.length) : (moved S g).L[k]? = some (mvB S g (S.blk g[k])) := by
  simp [moved, hk]

theorem find_moved {S : St} (hS : S.ok) {g : List Nat} (hg : Good S g) {w : Int} {i d : Nat} (h : S.find w = some (i, d)) (hi : i ∈ g) :
    (moved S g).find (mv S g w) = some (g.idxOf i, d) := by
  obtain ⟨hk, hgk⟩ := idx_get hi
  obtain ⟨_, b, hb, hr, hd⟩ := (find_iff S w i d).1 h
  have hbi : S.blk i = b := by
    have := blk_get (hg.lt i hi); rw [hb] at this; simpa using this.symm
  have hd' := dist_le hd
  have hle := npos_le hS hg hk (d := d) (by rw [hgk, hbi]; exact hd')
  have hmv : mv S g w = ptr (npos S g (g.idxOf i) + d) := by unfold mv; rw [h]
  rw [hmv, find_iff, addr_ptr hle]
  refine ⟨?_, mvB S g (S.blk i), ?_, ?_, ?_⟩
  · unfold npos St.base moved; dsimp only; omega
  · have := moved_blk (S := S) hk; rw [hgk] at this; exact this
  · rw [moved_pos]
  · rw [hbi]
    rcases hd with hd | hd
    · exact .inl hd
    · exact .inr (mv_slot hd)

/-- a word that is a number's, or 0, where it leads to nothing -/
def still (S : St) (w : Int) : Prop := S.find w = none → w % 2 = 1 ∨ w = 0

theorem find_moved_none {S : St} {g : List Nat} {w : Int} (h : S.find w = none) (hs : still S w) : mv S g w = w ∧ (moved S g).find w = none := by
  refine ⟨by unfold mv; rw [h], ?_⟩
  rcases hs h with h1 | h1
  · exact find_odd _ _ h1
  · rw [h1]; exact find_zero _

/-- all that roots and what is in their reach hold is still -/
structure Calm (S : St) (roots : List Int) : Prop where
  top : ∀ w ∈ roots, still S w
  fields : ∀ i ∈ S.reach roots, ∀ w ∈ (S.blk i).words, still S w

theorem mvB_words (S : St) (g : List Nat) (b : Blk) : (mvB S g b).words = b.words.map (mv S g) := by
  unfold mvB Blk.words
  split
  · rfl
  · rfl

theorem moved_words {S : St} {g : List Nat} {k : Nat} (hk : k < g.length) : ((moved S g).blk k).words = (S.blk g[k]).words.map (mv S g) := by
  have := moved_blk (S := S) hk
  unfold St.blk
  rw [List.getD_eq_getElem?_getD, this, Option.getD_some, mvB_words]
  rfl

theorem idx_inj {g : List Nat} {i j : Nat} (hi : i ∈ g) (hj : j ∈ g) (h : g.idxOf i = g.idxOf j) : i = j := by
  obtain ⟨h1, e1⟩ := idx_get hi
  obtain ⟨h2, e2⟩ := idx_get hj
  rw [← e1, ← e2]; congr 1

theorem meet_moved {S : St} (hS : S.ok) {g : List Nat} (hg : Good S g) {l : List Nat} (hl : l ⊆ g) {w : Int} (hw : ∀ i d, S.find w = some (i, d) → i ∈ g) (hs : still S w) :
    meet (moved S g) (l.map g.idxOf) (mv S g w) = (meet S l w).map g.idxOf := by
  cases hf : S.find w with
  | none =>
    obtain ⟨h1, h2⟩ := find_moved_none (g := g) hf hs
    unfold meet
    rw [h1, h2, hf]
  | some p =>
    obtain ⟨i, d⟩ := p
    have hi := hw i d hf
    have := find_moved hS hg hf hi
    unfold meet
    rw [this, hf]
    dsimp only
    by_cases hm : i ∈ l
    · rw [if_pos hm, if_pos (List.mem_map.2 ⟨i, hm, rfl⟩)]
    · rw [if_neg hm, if_neg]
      · simp
      · intro h
        obtain ⟨j, hj, e⟩ := List.mem_map.1 h
        have := idx_inj (hl hj) hi e
        subst this
        exact hm hj

theorem meets_moved {S : St} (hS : S.ok) {g : List Nat} (hg : Good S g) : ∀ (ws : List Int) (l : List Nat), l ⊆ g → (∀ w ∈ ws, still S w ∧ ∀ i d, S.find w = some (i, d) → i ∈ g) →
    (ws.map (mv S g)).foldl (meet (moved S g)) (l.map g.idxOf) = (ws.foldl (meet S) l).map g.idxOf
  | [], l, _, _ => rfl
  | w :: ws, l, hl, hw => by
    simp only [List.map_cons, List.foldl_cons]
    rw [meet_moved hS hg hl (hw w (by simp)).2 (hw w (by simp)).1]
    refine meets_moved hS hg ws _ ?_ (fun v hv => hw v (by simp [hv]))
    intro i hi
    unfold meet at hi
    cases hf : S.find w with
    | none => rw [hf] at hi; exact hl hi
    | some p =>
      rw [hf] at hi
      dsimp only at hi
      split at hi
      · exact hl hi
      · simp at hi
        rcases hi with hi | rfl
        · exact hl hi
        · exact (hw w (by simp)).2 p.1 p.2 hf

theorem outs_moved {S : St} (hS : S.ok) {roots : List Int} (hc : Calm S roots) (k : Nat) (hk : k ≤ S.L.length) :
    outs (S.coll roots) (S.now roots) k = (outs S roots k).map (S.reach roots).idxOf := by
  have hg := good_reach S roots
  induction k with
  | zero =>
    have := meets_moved hS hg roots [] (by simp) (fun w hw => ⟨hc.top w hw, fun i d h => root_mem hw h⟩)
    simpa [outs, St.coll, St.now] using this
  | succ k ih =>
    have ih := ih (by omega)
    have hsub : outs S roots k ⊆ S.reach roots := (prefix_outs S roots (by omega)).subset
    show (match (outs (S.coll roots) (S.now roots) k)[k]? with | none => outs (S.coll roots) (S.now roots) k | some i => ((S.coll roots).blk i).words.foldl (meet (S.coll roots)) (outs (S.coll roots) (S.now roots) k)) =
      (match (outs S roots k)[k]? with | none => outs S roots k | some i => (S.blk i).words.foldl (meet S) (outs S roots k)).map _
    rw [ih, List.getElem?_map]
    cases hx : (outs S roots k)[k]? with
    | none => simp
    | some i =>
      simp only [Option.map_some]
      have hi : i ∈ S.reach roots := hsub (List.mem_of_getElem? hx)
      obtain ⟨h1, h2⟩ := idx_get hi
      have hw : ((S.coll roots).blk ((S.reach roots).idxOf i)).words = (S.blk i).words.map (mv S (S.reach roots)) := by
        have := moved_words (S := S) h1
        rw [h2] at this
        exact this
      rw [hw]
      exact meets_moved hS hg _ _ hsub (fun w hw => ⟨hc.fields i hi w hw, fun j d h => field_mem hi hw h⟩)

theorem map_idx : ∀ (g : List Nat), g.Nodup → g.map g.idxOf = List.range g.length := by
  intro g hn
  apply List.ext_getElem
  · simp
  · intro k h1 h2
    simp at h1 h2
    simp [hn.idxOf_getElem k h1]

theorem reach_moved {S : St} (hS : S.ok) {roots : List Int} (hc : Calm S roots) :
    (S.coll roots).reach (S.now roots) = List.range (S.reach roots).length := by
  have hg := good_reach S roots
  have hlen : (S.coll roots).L.length = (S.reach roots).length := by simp [St.coll, moved]
  have hm : (outs S roots (S.reach roots).length) = S.reach roots := by
    have hle := hg.length_le
    have h1 : outs S roots (S.reach roots).length <+: S.reach roots := prefix_outs S roots hle
    rcases Nat.lt_or_ge (S.reach roots).length (outs S roots (S.reach roots).length).length with h' | h'
    · have := h1.length_le; omega
    · exact (outs_stop S roots h' _ hle).symm
  show outs (S.coll roots) (S.now roots) (S.coll roots).L.length = _
  rw [hlen, outs_moved hS hc _ hg.length_le, hm, map_idx _ hg.nodup]


/-! ## what is seen: CopierSame -/

structure Nd where
  place : Int
  dist : Nat
  w : Int

def node (S : St) (g : List Nat) (w : Int) : Nd :=
  match S.find w with
  | none => ⟨-1, 0, w⟩
  | some p => ⟨g.idxOf p.1, p.2, 0⟩

def nodesOf (S : St) (g : List Nat) (b : Blk) : List Nd := if b.tag = 202 then b.fs.map (fun w => ⟨-1, 0, w⟩) else b.fs.map (node S g)

theorem node_moved {S : St} (hS : S.ok) {roots : List Int} {w : Int} (hw : ∀ i d, S.find w = some (i, d) → i ∈ S.reach roots) (hs : still S w) :
    node (S.coll roots) (List.range (S.reach roots).length) (mv S (S.reach roots) w) = node S (S.reach roots) w := by
  have hg := good_reach S roots
  unfold node St.coll
  cases hf : S.find w with
  | none =>
    obtain ⟨h1, h2⟩ := find_moved_none (g := S.reach roots) hf hs
    rw [h1, h2]
  | some p =>
    obtain ⟨i, d⟩ := p
    have hi := hw i d hf
    rw [find_moved hS hg hf hi]
    dsimp only
    obtain ⟨hk, _⟩ := idx_get hi
    have : (List.range (S.reach roots).length).idxOf ((S.reach roots).idxOf i) = (S.reach roots).idxOf i := by
      have h := (List.nodup_range (n := (S.reach roots).length)).idxOf_getElem ((S.reach roots).idxOf i) (by simpa using hk)
      simpa using h
    rw [this]

theorem same_roots {S : St} (hS : S.ok) {roots : List Int} (hc : Calm S roots) :
    (S.now roots).map (node (S.coll roots) ((S.coll roots).reach (S.now roots))) = roots.map (node S (S.reach roots)) := by
  rw [reach_moved hS hc]
  unfold St.now
  rw [List.map_map]
  apply List.map_congr_left
  intro w hw
  exact node_moved hS (fun i d h => root_mem hw h) (hc.top w hw)

theorem coll_blk {S : St} {roots : List Int} {k : Nat} (hk : k < (S.reach roots).length) : (S.coll roots).blk k = mvB S (S.reach roots) (S.blk (S.reach roots)[k]) := by
  have := moved_blk (S := S) hk
  unfold St.blk
  rw [List.getD_eq_getElem?_getD]
  unfold St.coll
  rw [this]
  rfl

theorem same_fields {S : St} (hS : S.ok) {roots : List Int} (hc : Calm S roots) {k : Nat} (hk : k < (S.reach roots).length) :
    nodesOf (S.coll roots) ((S.coll roots).reach (S.now roots)) ((S.coll roots).blk k) = nodesOf S (S.reach roots) (S.blk (S.reach roots)[k]) := by
  rw [reach_moved hS hc, coll_blk hk]
  have hmem : (S.reach roots)[k] ∈ S.reach roots := List.getElem_mem hk
  generalize (S.reach roots)[k] = i at *
  unfold nodesOf
  rw [mvB_tag]
  by_cases ht : (S.blk i).tag = 202
  · rw [if_pos ht, if_pos ht]; unfold mvB; rw [if_pos ht]
  · rw [if_neg ht, if_neg ht]
    unfold mvB
    rw [if_neg ht, List.map_map]
    apply List.map_congr_left
    intro w hw
    have hw' : w ∈ (S.blk i).words := by unfold Blk.words; rw [if_neg ht]; exact hw
    exact node_moved hS (fun j d h => field_mem hmem hw' h) (hc.fields i hmem w hw')

theorem coll_tag {S : St} {roots : List Int} {k : Nat} (hk : k < (S.reach roots).length) : ((S.coll roots).blk k).tag = (S.blk (S.reach roots)[k]).tag := by
  rw [coll_blk hk, mvB_tag]

theorem coll_size {S : St} {roots : List Int} {k : Nat} (hk : k < (S.reach roots).length) : ((S.coll roots).blk k).fs.length = (S.blk (S.reach roots)[k]).fs.length := by
  rw [coll_blk hk, mvB_len]

/-! ## collected twice: CopierTwice -/

theorem calm_coll {S : St} (hS : S.ok) {roots : List Int} (hc : Calm S roots) : Calm (S.coll roots) (S.now roots) := by
  have hg := good_reach S roots
  have key : ∀ w, (∀ i d, S.find w = some (i, d) → i ∈ S.reach roots) → still S w → still (S.coll roots) (mv S (S.reach roots) w) := by
    intro w hw hs hn
    cases hf : S.find w with
    | none => rw [(find_moved_none (g := S.reach roots) hf hs).1]; exact hs hf
    | some p =>
      have h1 := find_moved hS hg (i := p.1) (d := p.2) hf (hw p.1 p.2 hf)
      unfold St.coll at hn
      rw [hn] at h1
      cases h1
  constructor
  · intro w hw
    obtain ⟨v, hv, rfl⟩ := List.mem_map.1 hw
    exact key v (fun i d h => root_mem hv h) (hc.top v hv)
  · intro k hk w hw
    rw [reach_moved hS hc, List.mem_range] at hk
    have h1 := moved_words (S := S) hk
    unfold St.coll at hw
    rw [h1] at hw
    obtain ⟨v, hv, rfl⟩ := List.mem_map.1 hw
    have hm : (S.reach roots)[k] ∈ S.reach roots := List.getElem_mem hk
    exact key v (fun i d h => field_mem hm hv h) (hc.fields _ hm v hv)

theorem coll_ok {S : St} (hS : S.ok) (roots : List Int) : (S.coll roots).ok := moved_ok hS (good_reach S roots)

theorem coll_len (S : St) (roots : List Int) : (S.coll roots).L.length = (S.reach roots).length := by simp [St.coll, moved]

theorem coll_pos (S : St) (roots : List Int) (k : Nat) : (S.coll roots).pos k = (S.coll roots).base + span (((S.reach roots).take k).map S.blk) + 1 := by
  have := moved_pos S (S.reach roots) k
  unfold St.coll
  rw [this]
  rfl

theorem coll_top (S : St) (roots : List Int) : (S.coll roots).top = (S.coll roots).base + S.cells roots := moved_top S _

/-- behind the second collection the blocks lie as they did behind the first one -/
theorem twice_blocks {S : St} (hS : S.ok) {roots : List Int} (hc : Calm S roots) : 
    (((S.coll roots).coll (S.now roots)).L.length = (S.coll roots).L.length) ∧
    ∀ k, k ≤ (S.coll roots).L.length → ((S.coll roots).coll (S.now roots)).pos k + (S.coll roots).base = (S.coll roots).pos k + ((S.coll roots).coll (S.now roots)).base := by
  have hr := reach_moved hS hc
  refine ⟨by rw [coll_len, coll_len, hr]; simp, ?_⟩
  intro k hk
  rw [coll_pos (S.coll roots) (S.now roots) k, hr]
  have hk' : k ≤ (S.reach roots).length := by rwa [coll_len] at hk
  have : ((List.range (S.reach roots).length).take k).map (S.coll roots).blk = (S.coll roots).L.take k := by
    apply List.ext_getElem
    · simp; rw [coll_len]
    · intro j h1 h2
      simp at h1 h2
      simp [St.blk]
      rw [List.getElem?_eq_getElem (by omega)]
      rfl
  rw [this]
  unfold St.pos
  omega

theorem twice_top {S : St} (hS : S.ok) {roots : List Int} (hc : Calm S roots) :
    ((S.coll roots).coll (S.now roots)).top + (S.coll roots).base = (S.coll roots).top + ((S.coll roots).coll (S.now roots)).base := by
  have h := (twice_blocks hS hc).2 _ (Nat.le_refl _)
  have hl := (twice_blocks hS hc).1
  have e1 : ∀ T : St, T.top + 1 = T.pos T.L.length := by intro T; unfold St.top St.pos; rw [List.take_length]
  have e2 := e1 (S.coll roots)
  have e3 := e1 ((S.coll roots).coll (S.now roots))
  rw [hl] at e3
  omega

theorem mv_lead {S : St} {g : List Nat} {w : Int} {i d : Nat} (h : S.find w = some (i, d)) : mv S g w = ptr (npos S g (g.idxOf i) + d) := by
  unfold mv; rw [h]

theorem mv_none {S : St} {g : List Nat} {w : Int} (h : S.find w = none) : mv S g w = w := by
  unfold mv; rw [h]

/-- a word that was moved twice more lies where it lay -/
theorem thrice_word {S : St} (hS : S.ok) {roots : List Int} (hc : Calm S roots) :
    ((S.coll roots).coll (S.now roots)).now ((S.coll roots).now (S.now roots)) = S.now roots := by
  have hS1 := coll_ok hS roots
  have hc1 := calm_coll hS hc
  have hS2 := coll_ok hS1 (S.now roots)
  have hc2 := calm_coll hS1 hc1
  have hr1 := reach_moved hS hc
  have hr2 := reach_moved hS1 hc1
  generalize hT : S.coll roots = T at *
  generalize hx : S.now roots = x at *
  have hsel : ∀ w ∈ x, ∀ i d, T.find w = some (i, d) → w = ptr (T.pos i + d) := by
    intro w hw i d hf
    rw [← hx] at hw
    obtain ⟨v, hv, rfl⟩ := List.mem_map.1 hw
    cases hs : S.find v with
    | none =>
      obtain ⟨h1, h2⟩ := find_moved_none (g := S.reach roots) hs (hc.top v hv)
      rw [← hT] at hf
      unfold St.coll at hf
      rw [h1, h2] at hf
      cases hf
    | some p =>
      obtain ⟨j, e⟩ := p
      have h1 := find_moved hS (good_reach S roots) hs (root_mem hv hs)
      rw [← hT] at hf
      unfold St.coll at hf
      rw [h1] at hf
      simp only [Option.some.injEq, Prod.mk.injEq] at hf
      obtain ⟨rfl, rfl⟩ := hf
      rw [← hT]
      unfold St.coll
      rw [moved_pos]
      unfold mv
      rw [hs]
  show ((T.now x).map (mv (T.coll x) ((T.coll x).reach (T.now x)))) = x
  conv => lhs; unfold St.now
  rw [List.map_map]
  have : ∀ w ∈ x, (mv (T.coll x) ((T.coll x).reach (T.now x)) ∘ mv T (T.reach x)) w = w := by
    intro w hw
    dsimp only [Function.comp]
    cases hf : T.find w with
    | none =>
      obtain ⟨h1, h2⟩ := find_moved_none (g := T.reach x) hf (hc1.top w hw)
      rw [h1]; exact mv_none (S := T.coll x) h2
    | some p =>
      obtain ⟨i, d⟩ := p
      have hi := root_mem hw hf
      have h1 := find_moved hS1 (good_reach T x) hf hi
      rw [hr2, mv_lead (S := T.coll x) h1]
      have hk := (idx_get hi).1
      rw [hr1] at hi hk ⊢
      rw [List.mem_range] at hi
      have hx1 : (List.range (S.reach roots).length).idxOf i = i := by
        have h := (List.nodup_range (n := (S.reach roots).length)).idxOf_getElem i (by simpa using hi)
        simpa using h
      rw [hx1]
      have hx2 : (List.range (List.range (S.reach roots).length).length).idxOf i = i := by
        have h := (List.nodup_range (n := (List.range (S.reach roots).length).length)).idxOf_getElem i (by simpa using hi)
        simpa using h
      rw [hx2, hsel w hw i d hf]
      congr 2
      have hup : T.up ≤ 1 := hS1.up
      have hlen : T.L.length = (S.reach roots).length := by rw [← hT, coll_len]
      unfold npos St.coll moved St.pos St.base
      dsimp only
      have e : 1 - (1 - T.up) = T.up := by omega
      rw [e]
      congr 2
      simp only [List.length_range]
      have : ∀ m, m ≤ T.L.length → ((List.range m).map (St.blk { n := T.n, up := 1 - T.up, L := (List.range (S.reach roots).length).map fun i => mvB T (List.range (S.reach roots).length) (T.blk i) })).map (fun b => b.fs.length) = (T.L.take m).map (fun b => b.fs.length) := by
        intro m hm
        apply List.ext_getElem
        · simp; omega
        · intro j h1 h2
          simp at h1 h2
          simp only [List.getElem_map, List.getElem_range, List.getElem_take]
          have hj : j < (S.reach roots).length := by omega
          simp [St.blk, hj, mvB_len]
          rw [List.getElem?_eq_getElem (by omega)]
          rfl
      have hsp : ∀ a b : List Blk, a.map (fun b => b.fs.length) = b.map (fun b => b.fs.length) → span a = span b := by
        intro a
        induction a with
        | nil => intro b h; cases b with
          | nil => rfl
          | cons y b => simp at h
        | cons y a ih => intro b h; cases b with
          | nil => simp at h
          | cons z b => simp at h; simp only [span, h.1, ih b h.2]
      refine hsp _ _ ?_
      rw [← this i (by omega)]
      congr 1
      rw [hr1, List.take_range, Nat.min_eq_left (by omega)]
  conv => rhs; rw [← List.map_id x]
  exact List.map_congr_left this



/-! ## nearest first: CopierOrder -/

def Told (S : St) (roots : List Int) (l : List Nat) : Prop :=
  ∀ k i : Nat, l[k]? = some i → (∃ w ∈ roots, ∃ d, S.find w = some (i, d)) ∨ ∃ j, j < k ∧ ∃ b, l[j]? = some b ∧ ∃ w ∈ (S.blk b).words, ∃ d, S.find w = some (i, d)

theorem told_meet {S : St} {roots : List Int} {l : List Nat} (h : Told S roots l) {w : Int}
    (hw : w ∈ roots ∨ ∃ j, j < l.length ∧ ∃ b, l[j]? = some b ∧ w ∈ (S.blk b).words) : Told S roots (meet S l w) := by
  unfold meet
  cases hf : S.find w with
  | none => exact h
  | some p =>
    dsimp only
    split
    · exact h
    · intro k i hk
      rcases Nat.lt_or_ge k l.length with hlt | hge
      · rw [List.getElem?_append_left hlt] at hk
        rcases h k i hk with h1 | ⟨j, hj, b, hb, r⟩
        · exact .inl h1
        · exact .inr ⟨j, hj, b, by rw [List.getElem?_append_left (by omega)]; exact hb, r⟩
      · rw [List.getElem?_append_right hge] at hk
        have h0 : k - l.length = 0 := by
          rcases Nat.eq_zero_or_pos (k - l.length) with e | e
          · exact e
          · rw [List.getElem?_eq_none (by simp; omega)] at hk; cases hk
        rw [h0] at hk
        simp at hk
        subst hk
        rcases hw with hw | ⟨j, hj, b, hb, hw⟩
        · exact .inl ⟨w, hw, p.2, hf⟩
        · exact .inr ⟨j, by omega, b, by rw [List.getElem?_append_left hj]; exact hb, w, hw, p.2, hf⟩

theorem told_meets {S : St} {roots : List Int} : ∀ (ws : List Int) {l : List Nat}, Told S roots l →
    ((∀ w ∈ ws, w ∈ roots) ∨ ∃ j, j < l.length ∧ ∃ b, l[j]? = some b ∧ ∀ w ∈ ws, w ∈ (S.blk b).words) → Told S roots (ws.foldl (meet S) l)
  | [], _, h, _ => h
  | w :: ws, l, h, hw => by
    have h1 : Told S roots (meet S l w) := told_meet h (by
      rcases hw with hw | ⟨j, hj, b, hb, hw⟩
      · exact .inl (hw w (by simp))
      · exact .inr ⟨j, hj, b, hb, hw w (by simp)⟩)
    refine told_meets ws h1 ?_
    rcases hw with hw | ⟨j, hj, b, hb, hw⟩
    · exact .inl fun v hv => hw v (by simp [hv])
    · refine .inr ⟨j, ?_, b, ?_, fun v hv => hw v (by simp [hv])⟩
      · have := (prefix_meet S l w).length_le; omega
      · exact (List.prefix_iff_getElem?.1 (prefix_meet S l w) j hj) ▸ by rw [List.getElem?_eq_getElem hj] at hb; exact hb

theorem told_outs (S : St) (roots : List Int) (k : Nat) : Told S roots (outs S roots k) := by
  induction k with
  | zero => exact told_meets roots (by intro k i hk; simp at hk) (.inl fun w hw => hw)
  | succ k ih =>
    show Told S roots (match (outs S roots k)[k]? with | none => outs S roots k | some i => (S.blk i).words.foldl (meet S) (outs S roots k))
    cases hx : (outs S roots k)[k]? with
    | none => exact ih
    | some i => exact told_meets _ ih (.inr ⟨k, (List.getElem?_eq_some_iff.1 hx).1, i, hx, fun w hw => hw⟩)

theorem told_reach (S : St) (roots : List Int) : Told S roots (S.reach roots) := told_outs S roots _

theorem pos_inj {S : St} {i j : Nat} (hi : i < S.L.length) (hj : j < S.L.length) (h : S.pos i = S.pos j) : i = j := by
  have key : ∀ a b, a < b → b < S.L.length → S.pos a ≠ S.pos b := by
    intro a b hab hb e
    have h1 := span_take_succ S.L a (S.blk a) (blk_get (by omega))
    have h2 : span (S.L.take (a + 1)) ≤ span (S.L.take b) := by
      have := span_take_le (S.L.take b) (a + 1)
      rw [List.take_take, Nat.min_eq_left (by omega)] at this
      exact this
    unfold St.pos at e
    omega
  rcases Nat.lt_trichotomy i j with h1 | h1 | h1
  · exact absurd h (key i j h1 hj)
  · exact h1
  · exact absurd h.symm (key j i h1 hi)

theorem pos_le {S : St} (hS : S.ok) {i : Nat} (hi : i < S.L.length) : S.pos i + (S.blk i).fs.length ≤ 65536 := by
  have h1 := span_take_get S.L i (S.blk i) (blk_get hi)
  have h2 := base_le hS
  have h3 := hS.fit
  have h4 := hS.n3
  unfold St.pos
  omega

end Go.Proofs.Ytleoedjjepkhgaa
