import Derived.Test.YtleoedjjepkhgaaEnv
import Derived.Test.YtleoedjjepkhgaaRset
/- Plain lists: what Collect lays and sets, step by step. -/
namespace Go.Proofs.Ytleoedjjepkhgaa

/-- the block of place q, while block k has j words set -/
def pblk (S : St) (g : List Nat) (k j q : Nat) : Blk :=
  if q < k then mvB S g (S.blk (g.getD q 0)) else if q = k then ⟨(S.blk (g.getD q 0)).tag, (mvB S g (S.blk (g.getD q 0))).fs.take j ++ List.replicate ((S.blk (g.getD q 0)).fs.length - j) 1⟩
  else ⟨(S.blk (g.getD q 0)).tag, List.replicate (S.blk (g.getD q 0)).fs.length 1⟩

theorem pblk_len (S : St) (g : List Nat) (k j q : Nat) (hj : q = k → j ≤ (S.blk (g.getD q 0)).fs.length) : (pblk S g k j q).fs.length = (S.blk (g.getD q 0)).fs.length := by
  unfold pblk
  split
  · exact mvB_len _ _ _
  · split
    · rename_i h
      have := hj h
      simp only [List.length_append, List.length_take, List.length_replicate, mvB_len]
      omega
    · simp

theorem pblk_tag (S : St) (g : List Nat) (k j q : Nat) : (pblk S g k j q).tag = (S.blk (g.getD q 0)).tag := by
  unfold pblk
  split
  · exact mvB_tag _ _ _
  · split <;> rfl

def St.part (S : St) (g : List Nat) (k j : Nat) : St := ⟨S.n, 1 - S.up, (List.range g.length).map (pblk S g k j)⟩

/-- k blocks are laid -/
def St.laid (S : St) (g : List Nat) (k : Nat) : St := ⟨S.n, 1 - S.up, (g.take k).map fun i => ⟨(S.blk i).tag, List.replicate (S.blk i).fs.length 1⟩⟩

theorem laid_zero (S : St) (g : List Nat) : S.laid g 0 = S.flip := rfl

theorem range_getD (g : List Nat) (f : Nat → Blk) : (List.range g.length).map (fun q => f (g.getD q 0)) = g.map f := by
  apply List.ext_getElem
  · simp
  · intro k h1 h2
    simp at h1
    simp [h1]

theorem laid_all (S : St) (g : List Nat) : S.laid g g.length = S.part g 0 0 := by
  unfold St.laid St.part
  rw [List.take_length, ← range_getD]
  congr 1
  apply List.map_congr_left
  intro q _
  unfold pblk
  rw [if_neg (by omega)]
  split
  · simp
  · rfl

theorem part_all (S : St) (g : List Nat) : S.part g g.length 0 = moved S g := by
  unfold St.part moved
  rw [← range_getD g (fun i => mvB S g (S.blk i))]
  congr 1
  apply List.map_congr_left
  intro q hq
  unfold pblk
  rw [if_pos (by simpa using hq)]

theorem part_next (S : St) (g : List Nat) {k : Nat} : S.part g k (S.blk (g.getD k 0)).fs.length = S.part g (k + 1) 0 := by
  unfold St.part
  congr 1
  apply List.map_congr_left
  intro q _
  unfold pblk
  by_cases h1 : q < k
  · rw [if_pos h1, if_pos (by omega)]
  · by_cases h2 : q = k
    · subst h2
      have e : (mvB S g (S.blk (g.getD q 0))).fs.take (S.blk (g.getD q 0)).fs.length = (mvB S g (S.blk (g.getD q 0))).fs := List.take_of_length_le (by rw [mvB_len]; exact Nat.le_refl _)
      rw [if_neg h1, if_pos rfl, if_pos (by omega), e, Nat.sub_self, List.replicate_zero, List.append_nil]
      show (⟨_, _⟩ : Blk) = _
      rw [← mvB_tag S g]
    · rw [if_neg h1, if_neg h2, if_neg (by omega)]
      by_cases h3 : q = k + 1
      · subst h3; simp
      · rw [if_neg h3]

theorem span_range (S : St) (g : List Nat) (k j : Nat) (hj : j ≤ (S.blk (g.getD k 0)).fs.length) (m : Nat) (hm : m ≤ g.length) : span (((S.part g k j).L).take m) = span ((g.take m).map S.blk) := by
  apply span_same
  unfold St.part
  have h1 : ((g.take m).map S.blk).map (fun b => b.fs.length) = (List.range m).map (fun q => (S.blk (g.getD q 0)).fs.length) := by
    apply List.ext_getElem
    · simp; omega
    · intro q h1 h2
      simp at h1 h2
      have : q < g.length := by omega
      simp [this]
  rw [h1]
  apply List.ext_getElem
  · simp; omega
  · intro q h1 h2
    simp at h1 h2
    simp only [List.getElem_map, List.getElem_take, List.getElem_range]
    exact pblk_len S g k j q (fun e => by subst e; exact hj)

theorem part_pos (S : St) (g : List Nat) {k j : Nat} (hj : j ≤ (S.blk (g.getD k 0)).fs.length) {m : Nat} (hm : m ≤ g.length) : (S.part g k j).pos m = npos S g m := by
  unfold St.pos npos St.base
  rw [span_range S g k j hj m hm]
  rfl

theorem part_len (S : St) (g : List Nat) (k j : Nat) : (S.part g k j).L.length = g.length := by simp [St.part]

theorem part_blk (S : St) (g : List Nat) (k j : Nat) {q : Nat} (hq : q < g.length) : (S.part g k j).blk q = pblk S g k j q := by
  unfold St.blk St.part
  rw [List.getD_eq_getElem?_getD]
  simp [hq]

theorem part_ok {S : St} (h : S.ok) {g : List Nat} (hg : Good S g) (k j : Nat) (hj : j ≤ (S.blk (g.getD k 0)).fs.length) : (S.part g k j).ok := by
  have h1 := span_range S g k j hj g.length (Nat.le_refl _)
  rw [List.take_of_length_le (by rw [part_len]; exact Nat.le_refl _), List.take_length] at h1
  have h2 := good_span hg
  have h3 := h.fit
  refine ⟨h.n2, h.n3, by show 1 - S.up ≤ 1; omega, ?_⟩
  rw [h1]
  show cellsOf S g ≤ S.n
  omega

theorem laid_top (S : St) (g : List Nat) (k : Nat) : (S.laid g k).top + 1 = npos S g k := by
  unfold St.top npos St.base St.laid
  have e : span ((g.take k).map fun i => (⟨(S.blk i).tag, List.replicate (S.blk i).fs.length 1⟩ : Blk)) = span ((g.take k).map S.blk) := by
    apply span_same
    rw [List.map_map, List.map_map]
    apply List.map_congr_left
    intro q _
    simp
  dsimp only
  rw [e]

theorem laid_step (S : St) (hS : S.ok) {g : List Nat} (hg : Good S g) {k i : Nat} (hi : g[k]? = some i) (ht : tagOk (S.blk i).tag) (hs : (S.blk i).fs.length ≤ 4096) :
    allocErr (S.laid g k) (((S.blk i).tag : Nat) : Int) (((S.blk i).fs.length : Nat) : Int) = 0 ∧ (S.laid g k).lay (((S.blk i).tag : Nat) : Int) (((S.blk i).fs.length : Nat) : Int) = S.laid g (k + 1) ∧
      layWord (S.laid g k) (((S.blk i).tag : Nat) : Int) (((S.blk i).fs.length : Nat) : Int) = 2 * ((npos S g k : Nat) : Int) := by
  have h0 : allocErr (S.laid g k) (((S.blk i).tag : Nat) : Int) (((S.blk i).fs.length : Nat) : Int) = 0 := by
    have h1 := laid_top S g k
    have h2 : span ((g.take (k + 1)).map S.blk) ≤ cellsOf S g := by
      unfold cellsOf
      rw [List.map_take]
      exact span_take_le _ _
    have h3 := good_span hg
    have h4 := hS.fit
    have h5 : span ((g.take (k + 1)).map S.blk) = span ((g.take k).map S.blk) + (1 + (S.blk i).fs.length) := by
      rw [List.map_take, List.map_take]
      exact span_take_succ _ _ _ (by rw [List.getElem?_map, hi]; rfl)
    have h6 : (S.laid g k).base + (S.laid g k).n = S.n * (1 - S.up) + S.n := rfl
    have h7 : npos S g k = S.n * (1 - S.up) + span ((g.take k).map S.blk) + 1 := rfl
    unfold tagOk at ht
    unfold allocErr
    rw [if_neg (by omega), if_neg (by omega), if_neg (by omega)]
  refine ⟨h0, ?_, ?_⟩
  · unfold St.lay
    rw [if_pos h0]
    unfold St.alloc St.laid
    have e : g.take (k + 1) = g.take k ++ [i] := by rw [List.take_add_one, hi]; rfl
    rw [e, List.map_append]
    simp
  · unfold layWord
    rw [if_pos h0, ← laid_top]
    omega

theorem part_set {S : St} (hS : S.ok) {g : List Nat} (hg : Good S g) {k j : Nat} (hk : k < g.length) (hj : j < (S.blk (g.getD k 0)).fs.length) :
    (S.part g k j).set (2 * ((npos S g k : Nat) : Int)) (j : Int) (wat (mvB S g (S.blk (g.getD k 0))).fs j) = (S.part g k (j + 1), 0) := by
  have hf : (S.part g k j).find (2 * ((npos S g k : Nat) : Int)) = some (k, 0) := by
    rw [← part_pos S g (Nat.le_of_lt hj) (Nat.le_of_lt hk)]
    exact find_ptr (part_ok hS hg k j (Nat.le_of_lt hj)) (by rw [part_len]; exact hk)
  have hl : ((S.part g k j).blk k).fs.length = (S.blk (g.getD k 0)).fs.length := by
    rw [part_blk S g k j hk]
    exact pblk_len S g k j k (fun _ => Nat.le_of_lt hj)
  unfold St.set
  rw [hf]
  dsimp only
  rw [hl, if_neg (by omega), Int.toNat_natCast]
  congr 1
  unfold St.setF
  rw [part_blk S g k j hk]
  unfold St.part
  congr 1
  apply List.ext_getElem
  · simp
  · intro q h1 h2
    simp at h1 h2
    rw [List.getElem_set]
    simp only [List.getElem_map, List.getElem_range]
    unfold pblk
    by_cases e : k = q
    · subst e
      rw [if_pos rfl, if_neg (Nat.lt_irrefl _), if_pos rfl, if_neg (Nat.lt_irrefl _), if_pos rfl]
      congr 1
      have hm := mvB_len S g (S.blk (g.getD k 0))
      generalize (mvB S g (S.blk (g.getD k 0))).fs = a at hm ⊢
      rw [← hm] at hj ⊢
      have e1 : (a.take j).length = j := by simp; omega
      have e2 : a.length - j = (a.length - (j + 1)) + 1 := by omega
      rw [List.set_append, if_neg (by omega), e1, Nat.sub_self, e2, List.replicate_succ, List.set_cons_zero, List.take_add_one, wat_get hj]
      simp
    · rw [if_neg e]
      by_cases h3 : q < k
      · rw [if_pos h3, if_pos h3]
      · rw [if_neg h3, if_neg h3, if_neg (Ne.symm e), if_neg (Ne.symm e)]

/-- where the blocks reached go, as the map holds it -/
def toAs (S : St) (g : List Nat) : Nat → Int → Option Value
  | 0, _ => none
  | k + 1, y => if y = 2 * ((S.pos (g.getD k 0) : Nat) : Int) then some (.int .u64 (2 * ((npos S g k : Nat) : Int))) else toAs S g k y

theorem toAs_at {S : St} {g : List Nat} (hg : Good S g) {q : Nat} : ∀ k, q < k → k ≤ g.length → toAs S g k (2 * ((S.pos (g.getD q 0) : Nat) : Int)) = some (.int .u64 (2 * ((npos S g q : Nat) : Int)))
  | 0, h, _ => by omega
  | k + 1, h, hk => by
    unfold toAs
    by_cases e : q = k
    · subst e; rw [if_pos rfl]
    · have hne : S.pos (g.getD q 0) ≠ S.pos (g.getD k 0) := by
        intro he
        have hq : q < g.length := by omega
        have hk' : k < g.length := by omega
        have e1 : g.getD q 0 = g[q] := by simp [hq]
        have e2 : g.getD k 0 = g[k] := by simp [hk']
        rw [e1, e2] at he
        have := pos_inj (hg.lt _ (List.getElem_mem hq)) (hg.lt _ (List.getElem_mem hk')) he
        exact e ((List.getElem_inj hg.nodup).1 this)
      rw [if_neg (by omega)]
      exact toAs_at hg k (by omega) (by omega)

open Go.RowKit in
/-- behind the flip -/
structure P2 (W wr : World) (p h c : Nat) (sv : Value) (S A : St) (bA bB bD bT mB mD mT : Nat) (l : List Int) (tf : Int → Option Value) (fv : Value) (g : List Nat) (kv : Value) (ks : List (Blk × Value)) (nv : Value) (roots : List Int) (sv' : Value) (cs' : List Int) : Prop where
  am : AM wr p h c sv' cs' A
  own : ∀ k, sv'.ownBlock = some k → k ∈ foot p h c sv ∨ W.heap.size ≤ k
  env : CE W wr p S bA bB bD bT mB mD mT l tf fv g
  chg : Chg (foot p h c sv) W wr
  kp : Kp W wr kv ks
  now : wr.ownsRow W.heap.size 49 1 nv roots.length (words roots)

theorem Chg.over2 {F G : List Nat} {W w w' : World} (h : Chg G W w) (k : Chg F w w') (hF : ∀ b ∈ F, b ∈ G ∨ W.heap.size ≤ b) : Chg G W w' :=
  ⟨k.os.trans h.os, k.tape.trans h.tape, k.output.trans h.output, Nat.le_trans h.size k.size, fun b hb hn => by
    rw [k.block b (Nat.lt_of_lt_of_le hb h.size) (fun hm => by rcases hF b hm with h1 | h1; exact hn h1; omega)]
    exact h.block b hb hn⟩

open Go.RowKit in
theorem own_cells {w : World} {base : Nat} {e : TypeId} {size : Nat} {v : Value} {n : Nat} {xs : List Value} (H : w.ownsRow base e size v n xs) {k : Nat} (hk : v.ownBlock = some k) : ∃ cs t fz, w.heap[k]? = some (.cells cs t fz) := by
  rcases H.2 with ⟨rfl, _⟩ | ⟨g, cap, cur, rfl, h1, h2, _⟩
  · simp [Value.ownBlock] at hk
  · have e1 : g = k := by simpa [Value.ownBlock] using hk
    subst e1
    exact ⟨_, _, _, h2⟩

section
variable {W wr w' : World} {p h c : Nat} {sv : Value} {cs : List Int} {S A B : St} {bA bB bD bT mB mD mT : Nat} {l : List Int} {tf : Int → Option Value} {fv : Value} {g : List Nat} {kv : Value} {ks : List (Blk × Value)} {nv : Value} {roots : List Int} {sv' : Value} {cs' : List Int}

/-- the arena changes, the rest stays -/
theorem P2.arena {F : List Nat} (HA : AM W p h c sv cs S) (H : P2 W wr p h c sv S A bA bB bD bT mB mD mT l tf fv g kv ks nv roots sv' cs') (hc : Chg F wr w') (hF : ∀ k ∈ F, k ∈ foot p h c sv') {sv2 : Value} {ds : List Int} (hm : AM w' p h c sv2 ds B)
    (hs : sv2.ownBlock = sv'.ownBlock ∨ ∃ k, sv2.ownBlock = some k ∧ wr.heap.size ≤ k) : P2 W w' p h c sv S B bA bB bD bT mB mD mT l tf fv g kv ks nv roots sv2 ds := by
  have hap : ∀ ts : List TypeId, 3 ∉ ts → ∀ k ∈ F, Apart W wr ts k := fun ts ht k hk => foot_apart HA H.am ht k (hF k hk)
  have hmo := H.env.maps_out (F := F) (by
    intro k hk
    rcases hap [] (by simp) k hk with h1 | ⟨es, cc, h1⟩ | ⟨cs, t, fz, h1, _⟩
    · exact .inl h1
    · have h2 := hF k hk
      unfold foot at h2
      simp only [List.mem_cons] at h2
      rcases h2 with rfl | rfl | rfl | h2
      · exact .inl (lt_of_heap HA.a)
      · exact .inl (lt_of_heap HA.hv)
      · exact .inl (lt_of_heap HA.cc)
      · rw [Option.mem_toList] at h2
        exact .inr (own_cells H.am.starts h2)
    · exact .inr ⟨cs, t, fz, h1⟩)
  refine ⟨hm, ?_, H.env.keep hc (hap _ (by decide)) hmo.1 hmo.2.1 hmo.2.2, H.chg.over2 hc ?_, H.kp.keep hc (hap _ (by decide)), row_keep H.now (Nat.le_refl _) hc (hap _ (by decide))⟩
  · intro k hk
    rcases hs with e | ⟨b, e, hb⟩
    · exact H.own k (e ▸ hk)
    · rw [e] at hk
      cases hk
      exact .inr (Nat.le_trans H.chg.size hb)
  · intro k hk
    have h2 := hF k hk
    unfold foot at h2
    simp only [List.mem_cons] at h2
    rcases h2 with rfl | rfl | rfl | h2
    · exact .inl (by simp [foot])
    · exact .inl (by simp [foot])
    · exact .inl (by simp [foot])
    · rw [Option.mem_toList] at h2
      exact H.own k h2

theorem P2.drewN (H : P2 W wr p h c sv S A bA bB bD bT mB mD mT l tf fv g kv ks nv roots sv' cs') (n : Nat) : P2 W (wr.drewN n) p h c sv S A bA bB bD bT mB mD mT l tf fv g kv ks nv roots sv' cs' :=
  ⟨H.am.drewN n, H.own, H.env.keep ((Chg.refl [] wr).drewN n) (by simp) (by simp) (by simp) (by simp), H.chg.drewN n, H.kp.keep ((Chg.refl [] wr).drewN n) (by simp), H.now⟩

/-- a store into the map of where blocks go -/
theorem P2.told {key : Int} {val : Value} (HA : AM W p h c sv cs S) (H : P2 W wr p h c sv S A bA bB bD bT mB mD mT l tf fv g kv ks nv roots sv' cs') (hm : MapIs w' mT (fun y => if y = key then some val else tf y)) (hg : wr.grownBy w' (some mT)) :
    P2 W w' p h c sv S A bA bB bD bT mB mD mT l (fun y => if y = key then some val else tf y) fv g kv ks nv roots sv' cs' := by
  have hc : Chg [mT] wr w' := (Chg.refl _ wr).grown hg (fun k hk => .inl (by cases hk; simp))
  have hap : ∀ ts : List TypeId, ∀ k ∈ [mT], Apart W wr ts k := fun ts k hk => by
    simp only [List.mem_singleton] at hk
    exact hk ▸ map_apart H.env.tos ts
  have hne : ∀ k ∈ foot p h c sv', k ∉ [mT] := by
    intro k hk hm2
    simp only [List.mem_singleton] at hm2
    subst hm2
    unfold foot at hk
    simp only [List.mem_cons] at hk
    rcases hk with rfl | rfl | rfl | hk
    · exact map_ne_cells H.env.tos H.am.a rfl
    · exact map_ne_cells H.env.tos H.am.hv rfl
    · exact map_ne_cells H.env.tos H.am.cc rfl
    · rw [Option.mem_toList] at hk
      obtain ⟨_, _, _, h3⟩ := own_cells H.am.starts hk
      exact map_ne_cells H.env.tos h3 rfl
  have E := H.env
  refine ⟨H.am.chg hc hne, H.own, ?_, H.chg.over2 hc ?_, H.kp.keep hc (hap _), row_keep H.now (Nat.le_refl _) hc (hap _)⟩
  · exact ⟨cells_keep E.kA E.fA hc (hap _), cells_keep E.kB E.fB hc (hap _), cells_keep E.kD E.fD hc (hap _), cells_keep E.kT E.fT hc (hap _), E.begs.kept (hc.block _ E.begs.lt (by simp [Ne.symm E.nTB])), E.dists.kept (hc.block _ E.dists.lt (by simp [Ne.symm E.nTD])), hm,
      E.nBD, E.nTB, E.nTD, E.fA, E.fB, E.fD, E.fT, E.gB, E.gD, E.gT, row_keep E.frm (Nat.le_refl _) hc (hap _)⟩
  · intro k hk
    simp only [List.mem_singleton] at hk
    exact .inr (hk ▸ E.gT)
open Go.RowKit in
theorem p2_alloc {k i : Nat} (HA : AM W p h c sv cs S) (hg : Good S g) (H : P2 W wr p h c sv S (S.laid g k) bA bB bD bT mB mD mT l (toAs S g k) fv g kv ks nv roots sv' cs') (hi : g[k]? = some i) :
    Calls Try.prog 52 #[.pointer (some ⟨p, 0, none⟩), .int .i64 (((S.blk i).tag : Nat) : Int), .int .i64 (((S.blk i).fs.length : Nat) : Int)] wr.drew fun e w' => ∃ w2, e = .returned (.tuple #[.int .u64 (2 * ((npos S g k : Nat) : Int)), .int .i64 0]) ∧
      w'.cell? ⟨bT, 0, none⟩ = some (.map (some mT)) ∧ (Instr.mapUpdate 106 (.map (some mT)) (.int .u64 (2 * ((S.pos i : Nat) : Int))) (.int .u64 (2 * ((npos S g k : Nat) : Int)))).run Try.prog w' = .ok () w2 ∧
      Hid (∃ sv2 ds, P2 W w2 p h c sv S (S.laid g (k + 1)) bA bB bD bT mB mD mT l (toAs S g (k + 1)) fv g kv ks nv roots sv2 ds) := by
  have hil := hg.lt i (List.mem_of_getElem? hi)
  have hbo := HA.blkOk hil
  have hb := HA.bounds hil
  obtain ⟨h1, h2, h3⟩ := laid_step S HA.ok hg hi hbo.tag hbo.size
  have HD := H.drewN 1
  refine (alloc_am HD.am (((S.blk i).tag : Nat) : Int) (((S.blk i).fs.length : Nat) : Int) (by omega)).mono ?_
  rintro e w' ⟨rfl, hc, sv2, ds, hm, hs⟩
  rw [h2] at hm
  rw [h1, h3]
  have P := HD.arena HA hc (fun k hk => hk) hm hs
  obtain ⟨w2, r1, m1, g1⟩ := run_update_word (P := Try.prog) (w := w') P.env.tos Try.underlying106 Try.underlying49 (2 * ((S.pos i : Nat) : Int)) (.int .u64 (2 * ((npos S g k : Nat) : Int)))
  have P' := P.told HA m1 g1
  have e1 : (fun y => if y = 2 * ((S.pos i : Nat) : Int) then some (.int .u64 (2 * ((npos S g k : Nat) : Int))) else toAs S g k y) = toAs S g (k + 1) := by
    funext y
    have : g.getD k 0 = i := by rw [List.getD_eq_getElem?_getD, hi]; rfl
    conv => rhs; unfold toAs
    rw [this]
  rw [e1] at P'
  exact ⟨w2, rfl, cell_at P.env.kT rfl, r1, sv2, ds, P'⟩
theorem mv_wd {S : St} (hS : S.ok) {g : List Nat} (hg : Good S g) {x : Int} (hx : Wd x) (hr : ∀ i d, S.find x = some (i, d) → i ∈ g) : Wd (mv S g x) ∧ ((S.find x = none ∧ mv S g x = x) ∨ ∃ i d a, S.find x = some (i, d) ∧ 1 ≤ S.pos i ∧ toAs S g g.length (2 * ((S.pos i : Nat) : Int)) = some (.int .u64 (2 * ((a : Nat) : Int))) ∧ a + d ≤ 65536 ∧ mv S g x = 2 * ((a + d : Nat) : Int)) := by
  cases hf : S.find x with
  | none => rw [mv_none hf]; exact ⟨hx, .inl ⟨rfl, rfl⟩⟩
  | some q =>
    obtain ⟨i, d⟩ := q
    have hin := hr i d hf
    obtain ⟨hk, he⟩ := idx_get hin
    obtain ⟨_, b, hb, h1, h2⟩ := (find_iff S x i d).1 hf
    have hbe : b = S.blk i := by
      have := blk_get (S := S) (i := i) (hg.lt i hin)
      rw [hb] at this
      exact Option.some.inj this
    have hd : d ≤ (S.blk g[g.idxOf i]).fs.length := by rw [he, ← hbe]; exact dist_le h2
    have hle := npos_le hS hg hk hd
    rw [mv_lead hf]
    have hp : 1 ≤ S.pos i := by unfold St.pos; omega
    have e1 : g.getD (g.idxOf i) 0 = i := by rw [List.getD_eq_getElem?_getD, List.getElem?_eq_getElem hk, he]; rfl
    have ht := toAs_at hg (q := g.idxOf i) g.length hk (Nat.le_refl _)
    rw [e1] at ht
    refine ⟨by unfold ptr Wd; omega, .inr ⟨i, d, npos S g (g.idxOf i), rfl, hp, ht, hle, rfl⟩⟩

open Go.RowKit in
theorem p2_fix (HS : S.ok) (hg : Good S g) (H : P2 W wr p h c sv S A bA bB bD bT mB mD mT l (toAs S g g.length) fv g kv ks nv roots sv' cs') {x : Int} (hx : x ∈ l) (hwd : Wd x) (hr : ∀ i d, S.find x = some (i, d) → i ∈ g) :
    Calls Try.prog 69 #[.int .u64 x, .pointer (some ⟨bB, 0, none⟩), .pointer (some ⟨bT, 0, none⟩), .pointer (some ⟨bD, 0, none⟩)] wr fun e w' => e = .returned (.int .u64 (mv S g x)) ∧ ∃ n, w' = wr.drewN n :=
  fix_am H.env.kB H.env.kT H.env.kD H.env.begs H.env.dists H.env.tos x (mv S g x) hx hwd.1 hwd.2 (mv_wd HS hg hwd hr).2

theorem mvB_at {S : St} {g : List Nat} {b : Blk} {j : Nat} (hj : j < b.fs.length) : wat (mvB S g b).fs j = if b.tag = 202 then wat b.fs j else mv S g (wat b.fs j) := by
  unfold mvB
  split
  · rfl
  · have h1 := wat_get (xs := b.fs.map (mv S g)) (k := j) (by simpa using hj)
    rw [List.getElem?_map, wat_get hj] at h1
    simpa using h1.symm

open Go.RowKit in
theorem p2_set {k j i : Nat} {v : Int} (HA : AM W p h c sv cs S) (hg : Good S g) (H : P2 W wr p h c sv S (S.part g k j) bA bB bD bT mB mD mT l tf fv g kv ks nv roots sv' cs') (hi : g[k]? = some i) (hj : j < (S.blk i).fs.length) (hv : v = wat (mvB S g (S.blk i)).fs j) (hwd : Wd v) :
    Calls Try.prog 34 #[.pointer (some ⟨p, 0, none⟩), .int .u64 (2 * ((npos S g k : Nat) : Int)), .int .i64 (j : Int), .int .u64 v] wr fun e w' => e = .returned (.int .i64 0) ∧
      ∃ sv2 ds, P2 W w' p h c sv S (S.part g k (j + 1)) bA bB bD bT mB mD mT l tf fv g kv ks nv roots sv2 ds := by
  have hk : k < g.length := (List.getElem?_eq_some_iff.1 hi).1
  have e1 : g.getD k 0 = i := by rw [List.getD_eq_getElem?_getD, hi]; rfl
  have e2 : g[k] = i := (List.getElem?_eq_some_iff.1 hi).2
  have hle := npos_le HA.ok hg hk (d := 0) (Nat.zero_le _)
  have hs := part_set HA.ok hg hk (j := j) (by rw [e1]; exact hj)
  rw [e1, ← hv] at hs
  refine (set_am H.am (2 * ((npos S g k : Nat) : Int)) (j : Int) v (by omega) (by omega) hwd).mono ?_
  rintro e w' ⟨rfl, hc, ds, hm⟩
  rw [hs] at hm ⊢
  exact ⟨rfl, sv', ds, H.arena HA hc (by simp [foot]) hm (.inl rfl)⟩
end

/-- the roots, j of them turned -/
def half (S : St) (g : List Nat) (roots : List Int) (j : Nat) : List Int := (roots.take j).map (mv S g) ++ roots.drop j

theorem half_len (S : St) (g : List Nat) (roots : List Int) (j : Nat) : (half S g roots j).length = roots.length := by
  unfold half; simp; omega

theorem half_at (S : St) (g : List Nat) {roots : List Int} {j : Nat} (hj : j < roots.length) : wat (half S g roots j) j = wat roots j := by
  unfold half wat
  rw [List.getD_eq_getElem?_getD, List.getElem?_append_right (by simp; omega), List.getElem?_drop, List.getD_eq_getElem?_getD]
  congr 2
  simp; omega

theorem half_set (S : St) (g : List Nat) {roots : List Int} {j : Nat} (hj : j < roots.length) : (half S g roots j).set j (mv S g (wat roots j)) = half S g roots (j + 1) := by
  unfold half
  have e1 : ((roots.take j).map (mv S g)).length = j := by simp; omega
  have e2 : roots.drop j = wat roots j :: roots.drop (j + 1) := by
    have := List.drop_eq_getElem_cons hj
    rw [this]
    congr 1
    have h1 := wat_get hj
    rw [List.getElem?_eq_getElem hj] at h1
    exact Option.some.inj h1
  rw [List.set_append, if_neg (by omega), e1, Nat.sub_self, e2, List.set_cons_zero, List.take_add_one, wat_get hj]
  simp

open Go.RowKit in
/-- while the roots are turned -/
structure P3 (W wr : World) (p h c : Nat) (sv : Value) (S A : St) (bB bT bD mB mT mD : Nat) (l : List Int) (tf : Int → Option Value) (nv : Value) (xs : List Int) (sv' : Value) (cs' : List Int) : Prop where
  am : AM wr p h c sv' cs' A
  chg : Chg (foot p h c sv) W wr
  kB : wr.heap[bB]? = some (.cells #[.map (some mB)] 106 (0, 0))
  kT : wr.heap[bT]? = some (.cells #[.map (some mT)] 106 (0, 0))
  kD : wr.heap[bD]? = some (.cells #[.map (some mD)] 107 (0, 0))
  begs : MapIs wr mB (begAs S l)
  dists : MapIs wr mD (distAs S l)
  tos : MapIs wr mT tf
  now : wr.ownsRow W.heap.size 49 1 nv xs.length (words xs)
  own : ∀ k, sv'.ownBlock = some k → k ∈ foot p h c sv ∨ W.heap.size ≤ k

section
variable {W wr w' : World} {p h c : Nat} {sv : Value} {cs : List Int} {S A B : St} {bA bB bD bT mB mD mT : Nat} {l : List Int} {tf : Int → Option Value} {fv : Value} {g : List Nat} {kv : Value} {ks : List (Blk × Value)} {nv : Value} {roots : List Int} {sv' : Value} {cs' : List Int}

theorem P2.last (H : P2 W wr p h c sv S A bA bB bD bT mB mD mT l tf fv g kv ks nv roots sv' cs') : P3 W wr p h c sv S A bB bT bD mB mT mD l tf nv roots sv' cs' :=
  ⟨H.am, H.chg, H.env.kB, H.env.kT, H.env.kD, H.env.begs, H.env.dists, H.env.tos, H.now, H.own⟩

open Go.RowKit in
theorem P3.turn {j : Nat} {x : Int} {gn : Nat} (HA : AM W p h c sv cs S) (H : P3 W wr p h c sv S A bB bT bD mB mT mD l tf nv roots sv' cs') (hn : nv.ownBlock = some gn) (hj : j < roots.length) : P3 W (wr.setCell ⟨gn, j, none⟩ (.int .u64 x)) p h c sv S A bB bT bD mB mT mD l tf nv (roots.set j x) sv' cs' := by
  have hlt := H.now.lt gn hn
  obtain ⟨cur, hcur⟩ : ∃ cur, wr.heap[gn]? = some (.cells cur 49 (0, 0)) := by
    rcases H.now.2 with ⟨e, _⟩ | ⟨b, cap, cur, e, _, h2, _⟩
    · rw [e] at hn; simp [Value.ownBlock] at hn
    · rw [e] at hn
      have e1 : b = gn := by simpa [Value.ownBlock] using hn
      exact ⟨cur, e1 ▸ h2⟩
  have hc : Chg [gn] wr (wr.setCell ⟨gn, j, none⟩ (.int .u64 x)) := (Chg.refl _ wr).set _ (.inl (by simp))
  have hne : ∀ k ∈ foot p h c sv', k ∉ [gn] := by
    intro k hk hm
    simp only [List.mem_singleton] at hm
    subst hm
    unfold foot at hk
    simp only [List.mem_cons] at hk
    rcases hk with rfl | rfl | rfl | hk
    · have := lt_of_heap HA.a; omega
    · have := lt_of_heap HA.hv; omega
    · have := lt_of_heap HA.cc; omega
    · rw [Option.mem_toList] at hk
      exact own_ne' H.am.starts hcur (by decide) hk
  have nB : bB ≠ gn := row_ne H.kB hcur (by decide)
  have nT : bT ≠ gn := row_ne H.kT hcur (by decide)
  have nD : bD ≠ gn := row_ne H.kD hcur (by decide)
  refine ⟨H.am.chg hc hne, H.chg.over2 hc ?_, (heap_set_ne _ nB).trans H.kB, (heap_set_ne _ nT).trans H.kT, (heap_set_ne _ nD).trans H.kD, H.begs.kept (heap_set_ne _ (Ne.symm (map_ne_cells H.begs hcur))), H.dists.kept (heap_set_ne _ (Ne.symm (map_ne_cells H.dists hcur))), H.tos.kept (heap_set_ne _ (Ne.symm (map_ne_cells H.tos hcur))), ?_, H.own⟩
  · intro k hk
    simp only [List.mem_singleton] at hk
    exact .inr (hk ▸ hlt.1)
  · have := ownsRow_store H.now hn (j := j) (by simp [words]; exact hj) (.int .u64 x)
    rw [words_set'] at this
    rw [List.length_set]
    exact this

theorem P3.drewN (H : P3 W wr p h c sv S A bB bT bD mB mT mD l tf nv roots sv' cs') (n : Nat) : P3 W (wr.drewN n) p h c sv S A bB bT bD mB mT mD l tf nv roots sv' cs' :=
  ⟨H.am.drewN n, H.chg.drewN n, H.kB, H.kT, H.kD, H.begs, H.dists, H.tos, H.now, H.own⟩
end

end Go.Proofs.Ytleoedjjepkhgaa
