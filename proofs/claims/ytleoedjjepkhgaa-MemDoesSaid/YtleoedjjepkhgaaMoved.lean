import Derived.Test.YtleoedjjepkhgaaMove
import Derived.Test.YtleoedjjepkhgaaCollect
/- The reference's moved: plain facts, and the walk. -/
namespace Go.Proofs.Ytleoedjjepkhgaa
open Go.RowKit

/-! ### plain -/

theorem mv_pre {S : St} {l G : List Nat} (hp : l <+: G) {x : Int} (hm : ∀ i d, S.find x = some (i, d) → i ∈ l) : mv S l x = mv S G x := by
  unfold mv
  cases hx : S.find x with
  | none => rfl
  | some q =>
    obtain ⟨t, rfl⟩ := hp
    have hin := hm q.1 q.2 hx
    obtain ⟨hk, _⟩ := idx_get hin
    dsimp only
    rw [List.idxOf_append, if_pos hin]
    unfold npos
    rw [List.take_append_of_le_length (by omega)]

/-- a block, j fields of which have moved -/
def mvP (S : St) (G : List Nat) (j : Nat) (b : Blk) : Blk := ⟨b.tag, (b.fs.take j).map (mv S G) ++ b.fs.drop j⟩
def ptB (S : St) (G : List Nat) (k j e : Nat) (b : Blk) : Blk := if e < k then mvB S G b else if e = k then mvP S G j b else b
/-- the new half: k blocks have moved whole, of the next one j fields -/
def ptS (S : St) (G g : List Nat) (k j : Nat) : St := ⟨S.n, 1 - S.up, (List.range g.length).map fun e => ptB S G k j e (S.blk (g.getD e 0))⟩

theorem mvP_zero (S : St) (G : List Nat) (b : Blk) : mvP S G 0 b = b := by unfold mvP; simp
theorem mvP_len (S : St) (G : List Nat) (j : Nat) (b : Blk) : (mvP S G j b).fs.length = b.fs.length := by unfold mvP; simp; omega
theorem mvP_all (S : St) (G : List Nat) {b : Blk} (ht : b.tag ≠ 202) : mvP S G b.fs.length b = mvB S G b := by unfold mvP mvB; rw [if_neg ht]; simp
theorem mvP_set (S : St) (G : List Nat) {j : Nat} {b : Blk} (hj : j < b.fs.length) : (mvP S G j b).fs.set j (mv S G (wat b.fs j)) = (mvP S G (j + 1) b).fs := by
  unfold mvP
  simp only
  have hd : b.fs.drop j = wat b.fs j :: b.fs.drop (j + 1) := by
    rw [List.drop_eq_getElem_cons hj]
    have := wat_get hj
    rw [List.getElem?_eq_getElem hj] at this
    rw [Option.some.inj this]
  rw [hd, List.set_append_right _ _ (by simp; omega), List.take_add_one, wat_get hj, List.map_append]
  have hl : ((b.fs.take j).map (mv S G)).length = j := by simp; omega
  rw [hl]
  simp
theorem mvP_at (S : St) (G : List Nat) {j : Nat} {b : Blk} (hj : j < b.fs.length) : wat (mvP S G j b).fs j = wat b.fs j := by
  unfold mvP wat
  simp only
  rw [List.getD_eq_getElem?_getD, List.getD_eq_getElem?_getD, List.getElem?_append_right (by simp; omega)]
  have hl : ((b.fs.take j).map (mv S G)).length = j := by simp; omega
  rw [hl, List.getElem?_drop]; simp
theorem ptB_len (S : St) (G : List Nat) (k j e : Nat) (b : Blk) : (ptB S G k j e b).fs.length = b.fs.length := by
  unfold ptB; split
  · exact mvB_len S G b
  · split
    · exact mvP_len S G j b
    · rfl
theorem ptB_tag (S : St) (G : List Nat) (k j e : Nat) (b : Blk) : (ptB S G k j e b).tag = b.tag := by
  unfold ptB; split
  · exact mvB_tag S G b
  · split <;> rfl

theorem ptS_len (S : St) (G g : List Nat) (k j : Nat) : (ptS S G g k j).L.length = g.length := by simp [ptS]
theorem ptS_get (S : St) (G : List Nat) {g : List Nat} (k j : Nat) {e i : Nat} (hi : g[e]? = some i) : (ptS S G g k j).blk e = ptB S G k j e (S.blk i) := by
  have he := (List.getElem?_eq_some_iff.1 hi).1
  unfold St.blk ptS
  simp only
  rw [List.getD_eq_getElem?_getD, List.getElem?_map, List.getElem?_range he]
  simp only [Option.map_some, Option.getD_some]
  rw [List.getD_eq_getElem?_getD, hi]; rfl

theorem ptS_like (S : St) (G g : List Nat) (k j : Nat) : Like S (ptS S G g k j) g :=
  ⟨rfl, rfl, ptS_len S G g k j, fun e i hi => by rw [ptS_get S G k j hi, ptB_tag], fun e i hi => by rw [ptS_get S G k j hi, ptB_len]⟩

theorem st_ext {A B : St} (h1 : A.n = B.n) (h2 : A.up = B.up) (h3 : A.L = B.L) : A = B := by cases A; cases B; simp_all

/-- a block more -/
theorem ptS_push (S : St) (G g : List Nat) {k : Nat} (j i : Nat) (hk : k < g.length ∨ (k = g.length ∧ j = 0)) : (ptS S G g k j).push (S.blk i) = ptS S G (g ++ [i]) k j := by
  refine st_ext rfl rfl ?_
  show (List.range g.length).map _ ++ [S.blk i] = (List.range (g ++ [i]).length).map _
  rw [List.length_append, List.length_singleton, List.range_succ, List.map_append]
  congr 1
  · refine List.map_congr_left fun e he => ?_
    have he' := List.mem_range.1 he
    congr 2
    rw [List.getD_eq_getElem?_getD, List.getD_eq_getElem?_getD, List.getElem?_append_left he']
  · have hg : (g ++ [i]).getD g.length 0 = i := by rw [List.getD_eq_getElem?_getD, List.getElem?_append_right (Nat.le_refl _)]; simp
    simp only [List.map_cons, List.map_nil, hg]
    unfold ptB
    rcases hk with hk | ⟨rfl, rfl⟩
    · rw [if_neg (by omega), if_neg (by omega)]
    · rw [if_neg (by omega), if_pos rfl, mvP_zero]

theorem ptS_grown (S : St) (G g : List Nat) {k : Nat} (j : Nat) (hk : k < g.length ∨ (k = g.length ∧ j = 0)) (x : Int) : (ptS S G g k j).grown S g x = ptS S G (meet S g x) k j := by
  unfold St.grown meet
  cases S.find x with
  | none => rfl
  | some p =>
    dsimp only
    split
    · rfl
    · exact ptS_push S G g j p.1 hk

/-- a field set -/
theorem ptS_set (S : St) (G : List Nat) {g : List Nat} {k i j : Nat} (hi : g[k]? = some i) (hj : j < (S.blk i).fs.length) : (ptS S G g k j).setF k j (mv S G (wat (S.blk i).fs j)) = ptS S G g k (j + 1) := by
  have hk := (List.getElem?_eq_some_iff.1 hi).1
  have hb := ptS_get S G k j hi
  refine st_ext rfl rfl ?_
  show (ptS S G g k j).L.set k _ = _
  rw [hb]
  have hpb : ptB S G k j k (S.blk i) = mvP S G j (S.blk i) := by unfold ptB; rw [if_neg (by omega), if_pos rfl]
  rw [hpb, mvP_set S G hj]
  show ((List.range g.length).map fun e => ptB S G k j e (S.blk (g.getD e 0))).set k _ = (List.range g.length).map fun e => ptB S G k (j + 1) e (S.blk (g.getD e 0))
  apply List.ext_getElem (by simp)
  intro e h1 h2
  have he : e < g.length := by simpa using h2
  rw [List.getElem_set]
  simp only [List.getElem_map, List.getElem_range]
  by_cases hek : k = e
  · subst hek
    rw [if_pos rfl]
    have hg : g.getD k 0 = i := by rw [List.getD_eq_getElem?_getD, hi]; rfl
    rw [hg]
    unfold ptB
    rw [if_neg (by omega), if_pos rfl]
    rfl
  · rw [if_neg hek]
    unfold ptB
    by_cases h3 : e < k
    · rw [if_pos h3, if_pos h3]
    · rw [if_neg h3, if_neg h3, if_neg (by omega), if_neg (by omega)]

/-- the next block -/
theorem ptS_next (S : St) (G : List Nat) {g : List Nat} {k i j : Nat} (hi : g[k]? = some i) (hj : (S.blk i).tag = 202 ∧ j = 0 ∨ (S.blk i).tag ≠ 202 ∧ j = (S.blk i).fs.length) : ptS S G g k j = ptS S G g (k + 1) 0 := by
  refine st_ext rfl rfl ?_
  show (List.range g.length).map _ = (List.range g.length).map _
  refine List.map_congr_left fun e he => ?_
  unfold ptB
  by_cases h1 : e < k
  · rw [if_pos h1, if_pos (by omega)]
  · rw [if_neg h1]
    by_cases h2 : e = k
    · subst h2
      rw [if_pos rfl, if_pos (by omega)]
      have hg : g.getD e 0 = i := by rw [List.getD_eq_getElem?_getD, hi]; rfl
      rw [hg]
      rcases hj with ⟨ht, rfl⟩ | ⟨ht, rfl⟩
      · rw [mvP_zero]; unfold mvB; rw [if_pos ht]
      · exact mvP_all S G ht
    · rw [if_neg h2, if_neg (by omega)]
      by_cases h3 : e = k + 1
      · rw [if_pos h3, mvP_zero]
      · rw [if_neg h3]

theorem ptS_end (S : St) (G : List Nat) : ptS S G G G.length 0 = moved S G := by
  refine st_ext rfl rfl ?_
  show (List.range G.length).map _ = G.map _
  apply List.ext_getElem (by simp)
  intro e h1 h2
  have he : e < G.length := by simpa using h2
  simp only [List.getElem_map, List.getElem_range]
  unfold ptB
  rw [if_pos he, List.getD_eq_getElem?_getD, List.getElem?_eq_getElem he]; rfl

section
variable {W w : World} {m q nq : Nat} {S T : St} {g : List Nat} {gv lv olv : Value} {fv ofv : Nat → Value}

/-- a field of the new half is set, in place -/
theorem RM.put {q : Nat} {lv : Value} {fv : Nat → Value} (H : RM w q lv fv T) {k j gb : Nat} {x : Int} (hk : k < T.L.length) (hj : j < (T.blk k).fs.length) (hb : (fv k).ownBlock = some gb) (hx : Wd x) :
    RM (w.setCell ⟨gb, j, none⟩ (.int .u64 x)) q lv fv (T.setF k j x) := by
  have hgb : ∃ cs fz, w.heap[gb]? = some (.cells cs 49 fz) := own_type (H.fvs k hk) gb (by rw [hb]; simp)
  obtain ⟨cs, fz, hgb⟩ := hgb
  have hrl : ∀ e, e < T.L.length → rcells (T.setF k j x) fv e = rcells T fv e := fun e he => by
    unfold rcells
    rw [setF_pos, setF_blk T k j x e hk]
    split
    · rename_i h; subst h; rfl
    · rfl
  refine ⟨?_, ?_, ?_, ?_, setF_ok H.ok k j x, setF_blks H.blks k j hx hk⟩
  · rw [heap_set_ne _ (fun e => by rw [e] at H; have h1 := H.a; rw [hgb] at h1; cases h1)]
    exact H.a
  · rw [setF_len]
    have e1 : rrow (T.setF k j x) fv T.L.length = rrow T fv T.L.length := rrow_congr hrl
    rw [e1]
    refine ownsRow_set H.row ?_ _
    intro e
    exact own_ne' H.row hgb (by decide) e
  · intro e he
    rw [setF_len] at he
    by_cases hek : e = k
    · subst hek
      rw [setF_blk T e j x e hk, if_pos rfl]
      have h1 := ownsRow_store (H.fvs e hk) hb (j := j) (by simp [words]; exact hj) (.int .u64 x)
      rw [words_set'] at h1
      simp only [List.length_set]
      exact h1
    · rw [setF_blk T k j x e hk, if_neg hek]
      refine ownsRow_set (H.fvs e he) ?_ _
      intro h1
      exact hek (H.dist e k gb he hk h1 hb)
  · intro i j' b hi hj' h1 h2
    rw [setF_len] at hi hj'
    exact H.dist i j' b hi hj' h1 h2

theorem MV.other {F : List Nat} {w' : World} (H : MV W w m q nq S T g gv lv fv) (hc : Chg F w w') (hF : ∀ k ∈ F, W.heap.size ≤ k ∧ k ∉ rfoot nq lv fv T.L.length ∧ ∃ cs fz, w.heap[k]? = some (.cells cs 49 fz)) : MV W w' m q nq S T g gv lv fv := by
  refine ⟨H.chg.over hc (fun k hk => (hF k hk).1), hc.get H.k fun hm => ?_, H.now.chg hc (fun k hk hm => (hF k hm).2.1 hk), ownsRow_chg H.gone hc fun k hk hm => ?_, H.good, H.like, H.fm, H.fnow⟩
  · obtain ⟨_, _, cs, fz, h⟩ := hF m hm
    rw [H.k] at h; cases h
  · obtain ⟨_, _, cs, fz, h⟩ := hF k hm
    exact own_ne' H.gone h (by decide) hk

/-- the new half, read -/
theorem MV.rows (H : MV W w m q nq S T g gv lv fv) {k : Nat} (hk : k < T.L.length) : ∃ lg lc, lv = .slice (some ⟨lg, 0, none⟩) T.L.length lc ∧ w.cell? ⟨lg, k * 3 + 1, none⟩ = some (.int .i64 (((T.blk k).tag : Nat) : Int)) ∧ w.cell? ⟨lg, k * 3 + 2, none⟩ = some (fv k) := by
  rcases H.now.rows with ⟨_, h0⟩ | ⟨lg, lc, e, _, hr⟩
  · omega
  · exact ⟨lg, lc, e, (hr k hk).2.1, (hr k hk).2.2⟩

theorem Like.setF {S T : St} {g : List Nat} (H : Like S T g) {k j : Nat} {x : Int} (hk : k < T.L.length) : Like S (T.setF k j x) g := by
  refine ⟨H.n, H.up, by rw [setF_len]; exact H.len, fun e i hi => ?_, fun e i hi => ?_⟩
  · rw [setF_blk T k j x e hk]
    split
    · rename_i h; subst h; exact H.tag e i hi
    · exact H.tag e i hi
  · rw [setF_blk T k j x e hk]
    split
    · rename_i h; subst h; rw [← H.size e i hi]; simp
    · exact H.size e i hi

theorem foot_at {nq n k b : Nat} {lv : Value} {fv : Nat → Value} (hk : k < n) (hb : (fv k).ownBlock = some b) : b ∈ rfoot nq lv fv n := by
  unfold rfoot
  simp only [List.mem_cons, List.mem_append, List.mem_flatMap, List.mem_range]
  exact .inr (.inr ⟨k, hk, by rw [hb]; simp⟩)

theorem MV.put (H : MV W w m q nq S T g gv lv fv) {k j gb : Nat} {x : Int} (hk : k < T.L.length) (hj : j < (T.blk k).fs.length) (hb : (fv k).ownBlock = some gb) (hx : Wd x) :
    MV W (w.setCell ⟨gb, j, none⟩ (.int .u64 x)) m q nq S (T.setF k j x) g gv lv fv := by
  obtain ⟨cs, fz, hgb⟩ := own_type (H.now.fvs k hk) gb (by rw [hb]; simp)
  have hW : W.heap.size ≤ gb := H.fnow gb (foot_at hk hb)
  refine ⟨H.chg.set _ (.inr hW), ?_, H.now.put hk hj hb hx, ownsRow_set H.gone (own_ne' H.gone hgb (by decide)) _, H.good, H.like.setF hk, H.fm, by rw [setF_len]; exact H.fnow⟩
  rw [heap_set_ne _ (fun e => by have h1 := H.k; rw [e, hgb] at h1; cases h1)]
  exact H.k

theorem MV.field {G : List Nat} {k j i : Nat} {fs : List Int} (H : MV W w m q nq S (ptS S G g k j) g gv lv fv) (hi : g[k]? = some i) (hfs : fs = (S.blk i).fs) :
    ∃ lg lc fa fc, lv = .slice (some ⟨lg, 0, none⟩) g.length lc ∧ k < g.length ∧ w.cell? ⟨lg, k * 3 + 2, none⟩ = some (.slice fa fs.length fc) ∧
      (j < fs.length → ∃ fb, fa = some ⟨fb, 0, none⟩ ∧ w.cell? ⟨fb, j, none⟩ = some (.int .u64 (wat fs j)) ∧ w.frozen? ⟨fb, j, none⟩ = false ∧ fb ∈ rfoot nq lv fv g.length ∧ (∃ cs fz, w.heap[fb]? = some (.cells cs 49 fz)) ∧
        ∀ y, Wd y → y = mv S G (wat fs j) → MV W (w.setCell ⟨fb, j, none⟩ (.int .u64 y)) m q nq S (ptS S G g k (j + 1)) g gv lv fv) := by
  have hk := (List.getElem?_eq_some_iff.1 hi).1
  have hl := ptS_len S G g k j
  have hbk : (ptS S G g k j).blk k = mvP S G j (S.blk i) := by rw [ptS_get S G k j hi]; unfold ptB; rw [if_neg (by omega), if_pos rfl]
  have hfl : (mvP S G j (S.blk i)).fs.length = fs.length := by rw [mvP_len, hfs]
  obtain ⟨lg, lc, e, _, kf⟩ := H.rows (k := k) (by rw [hl]; exact hk)
  rw [hl] at e
  have hfv := H.now.fvs k (by rw [hl]; exact hk)
  rw [hbk, hfl] at hfv
  obtain ⟨fa, fc, e2⟩ := ownsRow_slice hfv
  rw [e2] at kf
  refine ⟨lg, lc, fa, fc, e, hk, kf, fun hj => ?_⟩
  obtain ⟨fb, cap, e3, _, _, _, hc, hz⟩ := ownsRow_shape hfv (by omega)
  have hw := hc j _ (words_get (by rw [hfl]; exact hj))
  rw [mvP_at S G (by rw [← hfs]; exact hj), ← hfs] at hw
  rw [e2] at e3
  simp only [Value.slice.injEq] at e3
  have hb : (fv k).ownBlock = some fb := by rw [e2, e3.1]; rfl
  refine ⟨fb, e3.1, hw, hz j, foot_at hk hb, own_type hfv fb (by rw [hb]; simp), fun y hy hye => ?_⟩
  have h := H.put (k := k) (j := j) (by rw [hl]; exact hk) (by rw [hbk, hfl]; exact hj) hb hy
  rw [hye] at h ⊢
  rw [hfs, ptS_set S G hi (by rw [← hfs]; exact hj)] at h
  rw [hfs]
  exact h

set_option maxHeartbeats 4000000 in
set_option maxRecDepth 100000 in
theorem moved_am (HO : RM W q olv ofv S) (rv : Value) (roots : List Int) (hr : W.ownsRow 0 49 1 rv roots.length (words roots)) (hw : ∀ x ∈ roots, Wd x) (hrl : roots.length ≤ 1000000) :
    Calls Try.prog 70 #[.pointer (some ⟨q, 0, none⟩), rv] W fun e w' => ∃ m nq gv lv fv ov, e = .returned (.tuple #[.pointer (some ⟨m, 0, none⟩), ov]) ∧ MV W w' m q nq S (moved S (S.reach roots)) (S.reach roots) gv lv fv ∧
      w'.ownsRow W.heap.size 49 1 ov roots.length (words (S.now roots)) ∧ ∀ b, ov.ownBlock = some b → b ∉ rfoot nq lv fv (moved S (S.reach roots)).L.length := by
  obtain ⟨ra, rc, rfl⟩ := ownsRow_slice hr
  have HHR := Lib.hid hr
  have HOO := Lib.hid HO
  obtain ⟨f0, f1, f2⟩ := HO.fields
  have hup := HO.ok.up
  have hn3 := HO.ok.n3
  clear hr
  obtain ⟨G, hG⟩ : ∃ G, G = S.reach roots := ⟨_, rfl⟩
  have hnow : S.now roots = roots.map (mv S G) := by rw [hG]; rfl
  rw [← hG, hnow]
  have HG := Lib.hid hG
  clear hG hnow HO
  have hw1 : IntKind.i64.wrap (1 - (S.up : Int)) = 1 - (S.up : Int) := IntWalk.i64_in _ (by omega)
  go_enter Try.func70, Try.ntmps70
  go_upto_region 1 with fail
  refine region_float_tail [0] [1, 2, 3, 4, 5, 6, 7, 8, 9] 10 (by kernel_rfl) (by kernel_rfl) (by intro _ _ d _ _ h; cases d <;> exact h) ?_
  simp only [List.cons_append, List.nil_append, List.filterMap_cons, List.filterMap_nil, List.getElem?_cons_zero, List.getElem?_cons_succ, List.drop_succ_cons, List.drop_zero]
  refine show wpQuiet _ _ _ _ [_, _, _, _, _, _, _, _, _, _] _ from ?_
  repeat go_big_quiet_step (fail)
  refine wpQuiet_nil ?_
  intro m0
  go_wp2_with fail
  have hcu : (1 : Int) - (S.up : Int) = ((1 - S.up : Nat) : Int) := by omega
  rw [hcu]
  have hc0 : Chg [] W (((W.drewN m0).alloc (Obj.cells #[Value.int .i64 (S.n : Int), Value.int .i64 ((1 - S.up : Nat) : Int), Value.slice none 0 0] 70)).alloc (Obj.cells #[Value.pointer (some ⟨q, 0, none⟩), Value.pointer (some ⟨W.heap.size, 0, none⟩), Value.slice none 0 0] 113) |>.alloc (Obj.cells #[] 49)) := ((((Chg.refl [] W).drewN m0).alloc _).alloc _).alloc _
  have hmv0 : MV W (((W.drewN m0).alloc (Obj.cells #[Value.int .i64 (S.n : Int), Value.int .i64 ((1 - S.up : Nat) : Int), Value.slice none 0 0] 70)).alloc (Obj.cells #[Value.pointer (some ⟨q, 0, none⟩), Value.pointer (some ⟨W.heap.size, 0, none⟩), Value.slice none 0 0] 113) |>.alloc (Obj.cells #[] 49)) (W.heap.size + 1) q W.heap.size S (ptS S G [] 0 0) [] (.slice none 0 0) (.slice none 0 0) (fun _ => .slice none 0 0) := by
    refine ⟨hc0, ?_, ⟨?_, ⟨rfl, .inl ⟨rfl, rfl⟩⟩, fun k hk => absurd hk (by simp [ptS]), fun i j b hi => absurd hi (by simp [ptS]), (ptS_like S G [] 0 0).ok HOO.out.ok ⟨List.nodup_nil, by simp⟩, by intro b hb; simp [ptS] at hb⟩, ⟨rfl, .inl ⟨rfl, rfl⟩⟩, ⟨List.nodup_nil, by simp⟩, ptS_like S G [] 0 0, by omega, ?_⟩
    · rw [Below.heap_alloc _ _ _ (by simp only [size_alloc]; show W.heap.size + 1 < W.heap.size + 1 + 1; omega)]
      exact heap_at_new _ _ (by rw [size_alloc]; rfl)
    · rw [Below.heap_alloc _ _ _ (by simp only [size_alloc]; show W.heap.size < W.heap.size + 1 + 1; omega), Below.heap_alloc _ _ _ (by simp only [size_alloc]; show W.heap.size < W.heap.size + 1; omega)]
      exact heap_at_new _ _ rfl
    · intro k hk
      simp [rfoot, Value.ownBlock, ptS] at hk
      omega
  have hor0 : ((((W.drewN m0).alloc (Obj.cells #[Value.int .i64 (S.n : Int), Value.int .i64 ((1 - S.up : Nat) : Int), Value.slice none 0 0] 70)).alloc (Obj.cells #[Value.pointer (some ⟨q, 0, none⟩), Value.pointer (some ⟨W.heap.size, 0, none⟩), Value.slice none 0 0] 113)).alloc (Obj.cells #[] 49)).ownsRow W.heap.size 49 1 (.slice (some ⟨W.heap.size + 1 + 1, 0, none⟩) 0 0) 0 [] :=
    ⟨rfl, .inr ⟨W.heap.size + 1 + 1, 0, #[], rfl, by omega, heap_at_new _ _ (by simp only [size_alloc]; rfl), Nat.le_refl _, by unfold maxLen; omega, rfl, rfl⟩⟩
  have hof0 : ∀ b, (Value.slice (some ⟨W.heap.size + 1 + 1, 0, none⟩) 0 0).ownBlock = some b → b ∉ rfoot W.heap.size (.slice none 0 0) (fun _ => .slice none 0 0) (ptS S G [] 0 0).L.length := by
    intro b hb hm
    simp [Value.ownBlock] at hb
    simp [rfoot, Value.ownBlock, ptS] at hm
    omega
  have H0 := Lib.hid (And.intro hmv0 (And.intro hor0 hof0))
  clear hc0 hmv0 hor0 hof0 hcu hw1
  generalize (((W.drewN m0).alloc (Obj.cells #[Value.int .i64 (S.n : Int), Value.int .i64 ((1 - S.up : Nat) : Int), Value.slice none 0 0] 70)).alloc (Obj.cells #[Value.pointer (some ⟨q, 0, none⟩), Value.pointer (some ⟨W.heap.size, 0, none⟩), Value.slice none 0 0] 113)).alloc (Obj.cells #[] 49) = w0 at H0 ⊢
  generalize W.heap.size + 1 + 1 = b2 at H0 ⊢
  generalize W.heap.size + 1 = m at H0 ⊢
  obtain ⟨nq, hnq⟩ : ∃ nq, nq = W.heap.size := ⟨_, rfl⟩
  rw [← hnq] at H0 ⊢
  have hnq' : W.heap.size ≤ nq := by omega
  have hnq2 : nq ≤ W.heap.size := by omega
  clear hnq
  obtain ⟨i0, hi, hz0, hz1, hz2⟩ := info_parts info_word
  go_loopg [7, 8] roots.length (fun gh v7 v8 wr => ∃ k gv lv fv oa oc, gh = roots.length - k ∧ k ≤ roots.length ∧ v8 = .int .i64 ((k : Nat) : Int) ∧ v7 = .slice oa k oc ∧ MV W wr m q nq S (ptS S G ((roots.take k).foldl (meet S) []) 0 0) ((roots.take k).foldl (meet S) []) gv lv fv ∧
    wr.ownsRow W.heap.size 49 1 (.slice oa k oc) k (words ((roots.take k).map (mv S G))) ∧ ∀ b, (Value.slice oa k oc).ownBlock = some b → b ∉ rfoot nq lv fv (ptS S G ((roots.take k).foldl (meet S) []) 0 0).L.length)
  case atStart => exact ⟨0, _, _, _, _, _, rfl, Nat.zero_le _, rfl, rfl, H0.out.1, own_low H0.out.2.1 hnq', H0.out.2.2⟩
  case round =>
    clear H0
    obtain ⟨k, gv, lv, fv, oa, oc, hgk, hk, rfl, rfl, hm, hor, hof⟩ := hrel
    by_cases hlt : k < roots.length
    · have hdec : decide ((k : Int) < (roots.length : Int)) = true := decide_eq_true (by omega)
      obtain ⟨ga, rfl, la, ca⟩ := row_word (ownsRow_chg HHR.out hm.chg (by simp)) hlt
      have hwd := hw (wat roots k) (wat_mem hlt)
      have hmw := mword_am HOO.out hm (wat roots k) hwd
      have hpre : meet S ((roots.take k).foldl (meet S) []) (wat roots k) <+: G := by
        rw [← take_foldl_succ S roots hlt, HG.out]
        exact (take_foldl_pre S roots (k + 1) []).trans (prefix_outs S roots (Nat.zero_le _))
      rw [mv_pre hpre meet_has, ptS_grown S G _ 0 (by omega) (wat roots k)] at hmw
      have hts := take_foldl_succ S roots hlt []
      have htm := take_map_succ (mv S G) roots hlt
      generalize hmx : mv S G (wat roots k) = mx at hmw htm
      have HMW := Lib.hid hmw
      have HM := Lib.hid hm
      have HOR := Lib.hid hor
      have HOF := Lib.hid hof
      have HTS := Lib.hid hts
      have HTM := Lib.hid htm
      clear hmw hm hor hof hpre hts htm hmx
      go_wp2_with fail
      refine HMW.out.mono ?_
      rintro e w2 ⟨rfl, gv', lv', fv', hm2, hc2, hfr2⟩
      have hor2 := row_keep HOR.out (Nat.le_refl _) hc2 (HM.out.apart (by decide) (by decide) (by decide) (by decide))
      have hof2 : ∀ b, (Value.slice oa k oc).ownBlock = some b → b ∉ rfoot nq lv' fv' (ptS S G (meet S ((roots.take k).foldl (meet S) []) (wat roots k)) 0 0).L.length := by
        intro b hb hin
        rcases hfr2 b hin with h | h
        · exact HOF.out b hb h
        · have := (HOR.out.lt b hb).2
          omega
      have HM2 := Lib.hid hm2
      have HOR2 := Lib.hid (hor2.alloc (.cells #[.int .u64 mx] 49))
      have HO2 := Lib.hid (And.intro hor2 hof2)
      have hsz := hm2.chg.size
      clear hm2 hc2 hfr2 hor2 hof2
      go_wp2_with (at_builtin; go_loud (refine wpList_append_own_at _ rfl _ _ 28 rfl W.heap.size 49 i0 (.int .u64 0) 1 8 Try.underlying28 hi hz0 hz1 hz2 rfl (by decide) _ _ _ rfl HOR2.out ⟨w2.heap.size, 0, none⟩ 1 1 [.int .u64 mx] rfl rfl (cell_one_new _ _ _) (ints_oneCell .u64 [mx]) (by unfold maxLen; omega) (by omega) (by simp; omega) ?_); intro v' w4 hown4 hgrow4 hnil hloc; have HO4 := Lib.hid hown4; have HG4 := Lib.hid (show (w2.alloc (.cells #[.int .u64 mx] 49)).grownBy w4 (Value.slice oa k oc).ownBlock from hgrow4); have HL4 := Lib.hid hloc; obtain ⟨oa', oc', hv'⟩ := ownsRow_slice hown4; clear hown4 hgrow4 hnil hloc; subst hv')
      go_roundg (roots.length - (k + 1))
      case measure => omega
      case rel =>
        have hch4 : Chg (Value.slice oa k oc).ownBlock.toList w2 w4 := ((Chg.refl _ w2).alloc _).grown HG4.out (fun k hk => .inl (by rw [hk]; simp))
        refine ⟨k + 1, gv', lv', fv', oa', oc', rfl, by omega, by go_num, rfl, ?_, ?_, ?_⟩
        · rw [HTS.out]
          refine HM2.out.other hch4 fun b hb => ⟨?_, HO2.out.2 b (by rwa [Option.mem_toList] at hb), own_type HO2.out.1 b hb⟩
          rw [Option.mem_toList] at hb
          exact (HO2.out.1.lt b hb).1
        · rw [HTM.out]
          have h := HO4.out
          unfold words at h ⊢
          rw [List.map_append]
          exact h
        · rw [HTS.out]
          intro b hb
          rcases HL4.out with e | e
          · exact HO2.out.2 b (e.symm.trans hb)
          · intro hin
            have h1 : b = (w2.alloc (.cells #[.int .u64 mx] 49)).heap.size := Option.some.inj (hb.symm.trans e)
            have h2 := HM2.out.now.lts b hin
            rw [size_alloc] at h1
            omega
    · obtain rfl : k = roots.length := by omega
      have hdec : decide ((roots.length : Int) < (roots.length : Int)) = false := decide_eq_false (by omega)
      rw [List.take_length] at hm hor hof
      have HM := Lib.hid hm
      have HOR := Lib.hid hor
      have HOF := Lib.hid hof
      clear hm hor hof
      go_wp2_with fail
      have HOF2 : ∀ b, (Value.slice oa roots.length oc).ownBlock = some b → b ∉ rfoot nq lv fv (outs S roots 0).length := fun b hb => by have h := HOF.out b hb; rw [ptS_len] at h; exact h
      have HOF3 := Lib.hid HOF2
      clear HOF HOF2
      go_loopg [9] S.L.length (fun gh v9 w2 => ∃ k gv lv fv, gh = S.L.length - k ∧ k ≤ (outs S roots k).length ∧ v9 = .int .i64 ((k : Nat) : Int) ∧ MV W w2 m q nq S (ptS S G (outs S roots k) k 0) (outs S roots k) gv lv fv ∧
        w2.ownsRow W.heap.size 49 1 (.slice oa roots.length oc) roots.length (words (roots.map (mv S G))) ∧ ∀ b, (Value.slice oa roots.length oc).ownBlock = some b → b ∉ rfoot nq lv fv (outs S roots k).length)
      case atStart => exact ⟨0, gv, lv, fv, rfl, Nat.zero_le _, rfl, HM.out, HOR.out, HOF3.out⟩
      case round =>
        clear HM HOR HOF3
        obtain ⟨k, gv2, lv2, fv2, hgk, hk, rfl, hm, hor, hof⟩ := hrel
        have hl := ptS_len S G (outs S roots k) k 0
        have km1 := cell_at hm.k (o := 1) (v := .pointer (some ⟨nq, 0, none⟩)) rfl
        have hgl := (good_outs S roots k).length_le
        have hcnt := HOO.out.count
        by_cases hlt : k < (outs S roots k).length
        · obtain ⟨lg, lc, e, kt, kf⟩ := hm.rows (k := k) (by rw [hl]; exact hlt)
          obtain ⟨i, hi⟩ : ∃ i, (outs S roots k)[k]? = some i := ⟨_, List.getElem?_eq_getElem hlt⟩
          have hbk : (ptS S G (outs S roots k) k 0).blk k = S.blk i := by
            rw [ptS_get S G k 0 hi]; unfold ptB; rw [if_neg (by omega), if_pos rfl, mvP_zero]
          rw [hbk] at kt
          rw [hl] at e
          subst e
          have kn2 := hm.now.fields.2.2
          have hs : outs S roots (k + 1) = (S.blk i).words.foldl (meet S) (outs S roots k) := by
            show (match (outs S roots k)[k]? with | none => outs S roots k | some i => (S.blk i).words.foldl (meet S) (outs S roots k)) = _
            rw [hi]
          have hpl := (prefix_outs_succ S roots k).length_le
          have hpk : k + 1 ≤ (outs S roots (k + 1)).length := by omega
          have HS := Lib.hid hs
          have HI := Lib.hid hi
          have HM := Lib.hid hm
          have HOR := Lib.hid hor
          have HOF := Lib.hid hof
          have HB := Lib.hid hbk
          have hdec : decide ((k : Int) < ((outs S roots k).length : Int)) = true := decide_eq_true (by omega)
          by_cases ht : (S.blk i).tag = 202
          · have hdt : ((((S.blk i).tag : Nat) : Int) == 202) = true := beq_iff_eq.2 (by omega)
            have HT := Lib.hid ht
            clear hs hi hm hor hof hl ht hbk
            go_wp2_with fail
            go_roundg (S.L.length - (k + 1))
            case measure => omega
            case rel =>
              have hw : (S.blk i).words = [] := by unfold Blk.words; rw [if_pos HT.out]
              have h1 := HS.out
              rw [hw] at h1
              refine ⟨k + 1, gv2, .slice (some ⟨lg, 0, none⟩) (outs S roots k).length lc, fv2, rfl, hpk, by go_num, ?_, HOR.out, ?_⟩
              · rw [h1]
                have h2 := ptS_next S G HI.out (j := 0) (.inl ⟨HT.out, rfl⟩)
                show MV W wr m q nq S (ptS S G (outs S roots k) (k + 1) 0) (outs S roots k) _ _ _
                rw [← h2]
                exact HM.out
              · rw [h1]; exact HOF.out
          · have hdt : ((((S.blk i).tag : Nat) : Int) == 202) = false := beq_eq_false_iff_ne.2 (by omega)
            have HT := Lib.hid ht
            clear hs hi hm hor hof hl ht hbk
            obtain ⟨fs, hfs⟩ : ∃ fs, fs = (S.blk i).fs := ⟨_, rfl⟩
            have HFS := Lib.hid hfs
            have hbo : (S.blk i).ok := HOO.out.blks _ (List.mem_of_getElem? (blk_get ((good_outs S roots k).lt i (List.mem_of_getElem? HI.out))))
            clear hfs
            go_wp2_with fail
            go_loopg [10] fs.length (fun gi v10 w3 => ∃ j gv lv fv, gi = fs.length - j ∧ j ≤ fs.length ∧ v10 = .int .i64 ((j : Nat) : Int) ∧ MV W w3 m q nq S (ptS S G ((fs.take j).foldl (meet S) (outs S roots k)) k j) ((fs.take j).foldl (meet S) (outs S roots k)) gv lv fv ∧
              w3.ownsRow W.heap.size 49 1 (.slice oa roots.length oc) roots.length (words (roots.map (mv S G))) ∧ ∀ b, (Value.slice oa roots.length oc).ownBlock = some b → b ∉ rfoot nq lv fv ((fs.take j).foldl (meet S) (outs S roots k)).length)
            case atStart => exact ⟨0, _, _, _, rfl, Nat.zero_le _, rfl, HM.out, HOR.out, HOF.out⟩
            case round =>
              clear HM HOR HOF km1 kt kf kn2
              obtain ⟨j, gv3, lv3, fv3, hgj, hj, rfl, hm, hor, hof⟩ := hrel
              have hgi : ((fs.take j).foldl (meet S) (outs S roots k))[k]? = some i := by
                obtain ⟨t, ht⟩ := prefix_meets S (fs.take j) (outs S roots k)
                rw [← ht, List.getElem?_append_left hlt]
                exact HI.out
              obtain ⟨gj, hgd⟩ : ∃ gj, gj = (fs.take j).foldl (meet S) (outs S roots k) := ⟨_, rfl⟩
              rw [← hgd] at hm hof hgi
              have HGD := Lib.hid hgd
              obtain ⟨lg3, lc3, fa, fc, e, hkl, kf, hfld⟩ := hm.field hgi HFS.out
              subst e
              have km1 := cell_at hm.k (o := 1) (v := .pointer (some ⟨nq, 0, none⟩)) rfl
              have kn2 := hm.now.fields.2.2
              have hgc := hm.good.length_le
              by_cases hlt2 : j < fs.length
              · have hdec2 : decide ((j : Int) < (fs.length : Int)) = true := decide_eq_true (by omega)
                obtain ⟨fb, rfl, fcell, _, _, _, _⟩ := hfld hlt2
                have hwd := hbo.words (wat fs j) (by rw [← HFS.out]; exact wat_mem hlt2)
                have hjl := hbo.size
                rw [← HFS.out] at hjl
                have hmw := mword_am HOO.out hm (wat fs j) hwd
                have hpre : meet S gj (wat fs j) <+: G := by
                  rw [hgd, ← take_foldl_succ S fs hlt2, HG.out]
                  refine (take_foldl_pre S fs (j + 1) _).trans ?_
                  have h : outs S roots (k + 1) <+: S.reach roots := prefix_outs S roots (by omega)
                  have hww : (S.blk i).words = fs := by unfold Blk.words; rw [if_neg HT.out]; exact HFS.out.symm
                  rw [HS.out, hww] at h
                  exact h
                have hgg : Good S G := by rw [HG.out]; exact good_reach S roots
                have hin : ∀ i d, S.find (wat fs j) = some (i, d) → i ∈ G := fun i d h => hpre.subset (meet_has i d h)
                have hxw := (mv_wd HOO.out.ok hgg hwd hin).1
                rw [mv_pre hpre meet_has, ptS_grown S G gj j (.inl hkl) (wat fs j)] at hmw
                have hts := take_foldl_succ S fs hlt2 (outs S roots k)
                rw [← hgd] at hts
                have hg4 : (meet S gj (wat fs j))[k]? = some i := by
                  obtain ⟨t, ht⟩ := prefix_meet S gj (wat fs j)
                  rw [← ht, List.getElem?_append_left hkl]
                  exact hgi
                obtain ⟨g4, hg4d⟩ : ∃ g4, g4 = meet S gj (wat fs j) := ⟨_, rfl⟩
                rw [← hg4d] at hmw hts hg4
                obtain ⟨mx, hmx⟩ : ∃ mx, mx = mv S G (wat fs j) := ⟨_, rfl⟩
                rw [← hmx] at hmw hxw
                have HMW := Lib.hid hmw
                have HM3 := Lib.hid hm
                have HOR3 := Lib.hid hor
                have HOF3 := Lib.hid hof
                have HTS := Lib.hid hts
                have HG4 := Lib.hid hg4
                have HMX := Lib.hid hmx
                clear hmw hm hor hof hpre hts hg4 hg4d hmx hgg hin hgd hgi hfld HI
                have HXW := Lib.hid hxw
                clear hxw
                go_wp2_with fail
                refine HMW.out.mono ?_
                rintro e w4 ⟨rfl, gv4, lv4, fv4, hm4, hc4, hfr4⟩
                have hor4 := row_keep HOR3.out (Nat.le_refl _) hc4 (HM3.out.apart (by decide) (by decide) (by decide) (by decide))
                have hof4 : ∀ b, (Value.slice oa roots.length oc).ownBlock = some b → b ∉ rfoot nq lv4 fv4 g4.length := by
                  intro b hb hin
                  rw [ptS_len, ptS_len] at hfr4
                  rcases hfr4 b hin with h | h
                  · exact HOF3.out b hb h
                  · have := (HOR3.out.lt b hb).2
                    omega
                obtain ⟨lg4, lc4, fa4, fc4, e, hkl4, kf4, hfld4⟩ := hm4.field HG4.out HFS.out
                subst e
                obtain ⟨fb4, rfl, fc4', fz4, hin4, hty4, hput4⟩ := hfld4 hlt2
                have km1' := cell_at hm4.k (o := 1) (v := .pointer (some ⟨nq, 0, none⟩)) rfl
                have kn2' := hm4.now.fields.2.2
                have hgc4 := hm4.good.length_le
                have hor5 := ownsRow_set (o := j) hor4 (b := fb4) (fun h => hof4 fb4 h hin4) (.int .u64 mx)
                have HM5 := Lib.hid (hput4 mx HXW.out HMX.out)
                have HOR5 := Lib.hid hor5
                have HOF5 := Lib.hid hof4
                clear hm4 hc4 hfr4 hor4 hof4 hput4 hfld4 hor5
                go_wp2_with fail
                go_roundg (fs.length - (j + 1))
                case measure => omega
                case rel =>
                  refine ⟨j + 1, gv4, .slice (some ⟨lg4, 0, none⟩) g4.length lc4, fv4, rfl, by omega, by go_num, ?_, HOR5.out, ?_⟩
                  · rw [HTS.out]; exact HM5.out
                  · rw [HTS.out]; exact HOF5.out
              · obtain rfl : j = fs.length := by omega
                have hdec2 : decide ((fs.length : Int) < (fs.length : Int)) = false := decide_eq_false (by omega)
                have HM3 := Lib.hid hm
                have HOR3 := Lib.hid hor
                have HOF3 := Lib.hid hof
                have HGI := Lib.hid hgi
                clear hm hor hof hgd hgi hfld
                go_wp2_with fail
                go_roundg (S.L.length - (k + 1))
                case measure => omega
                case rel =>
                  have hww : (S.blk i).words = fs := by unfold Blk.words; rw [if_neg HT.out]; exact HFS.out.symm
                  have h1 := HS.out
                  have h3 := HGD.out
                  rw [List.take_length] at h3
                  rw [hww, ← h3] at h1
                  refine ⟨k + 1, gv3, .slice (some ⟨lg3, 0, none⟩) gj.length lc3, fv3, rfl, hpk, by go_num, ?_, HOR3.out, ?_⟩
                  · rw [h1]
                    have h2 := ptS_next S G HGI.out (j := fs.length) (.inr ⟨HT.out, by rw [HFS.out]⟩)
                    rw [← h2]
                    exact HM3.out
                  · rw [h1]; exact HOF3.out
        · have hk2 : (outs S roots k).length = k := by omega
          have hreach : S.reach roots = outs S roots k := reach_of_stop S roots hk2
          have hkg : k = G.length := by rw [HG.out, hreach]; exact hk2.symm
          rw [← hreach, ← HG.out, hkg, ptS_end] at hm
          rw [← hreach, ← HG.out] at hof
          have HOFE := Lib.hid (show ∀ b, (Value.slice oa roots.length oc).ownBlock = some b → b ∉ rfoot nq lv2 fv2 (moved S G).L.length by rw [show (moved S G).L.length = G.length by simp [moved]]; exact hof)
          have kn2 := hm.now.fields.2.2
          have hml : (moved S G).L.length = k := by unfold moved; rw [hkg]; simp
          obtain ⟨la, lc, hlv⟩ : ∃ la lc, lv2 = .slice la k lc := by
            obtain ⟨la, lc, e⟩ := ownsRow_slice hm.now.row
            rw [hml] at e
            exact ⟨la, lc, e⟩
          subst hlv
          have HM := Lib.hid hm
          have HOR := Lib.hid hor
          have HG2 := Lib.hid hkg
          have hdec : decide ((k : Int) < (k : Int)) = false := decide_eq_false (by omega)
          clear hm hor hof hl hlt hk2 hkg hml hreach hk hgk
          go_wp2_with fail
          try rw [Exit.noGoto_ret]
          change bodyPost Try.prog Try.f70 _ Exit.ret _ _
          go_ret2
          exact ⟨_, _, _, _, _, _, rfl, HM.out, HOR.out, HOFE.out⟩
end

end Go.Proofs.Ytleoedjjepkhgaa
