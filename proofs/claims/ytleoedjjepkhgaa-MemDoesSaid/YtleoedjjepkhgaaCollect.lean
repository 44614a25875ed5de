import Derived.Test.YtleoedjjepkhgaaLaid
import Derived.Deep.CutRange
import Derived.Deep.LoopGhost
/- copier.Collect. -/
namespace Go.Proofs.Ytleoedjjepkhgaa
open Go.RowKit

section
variable {W w : World} {p h c : Nat} {sv : Value} {cs : List Int} {S : St}

/-- the boxes and maps as Collect makes them -/
theorem ce_new {w1 : World} {g : List Nat} {fv : Value} {o : World} (ho : o = ((((((w1.alloc (Obj.map #[] 0)).alloc (Obj.cells #[Value.map (some w1.heap.size)] 106)).alloc (Obj.map #[] 0)).alloc (Obj.cells #[Value.map (some (w1.heap.size + 1 + 1))] 106)).alloc (Obj.map #[] 0)).alloc (Obj.cells #[Value.map (some (w1.heap.size + 1 + 1 + 1 + 1))] 107)))
    {bA : Nat} (hA : w1.heap[bA]? = some (.cells #[.pointer (some ⟨p, 0, none⟩)] 44 (0, 0))) (hW : W.heap.size ≤ bA) (hr : w1.ownsRow W.heap.size 49 1 fv g.length (words (ptrs S g))) (hc : Chg [] W w1) :
    CE W o p S bA (w1.heap.size + 1 + 1 + 1) (w1.heap.size + 1 + 1 + 1 + 1 + 1) (w1.heap.size + 1) (w1.heap.size + 1 + 1) (w1.heap.size + 1 + 1 + 1 + 1) w1.heap.size [] (fun _ => none) fv g ∧ Chg [] W o := by
  subst ho
  have hs := hc.size
  have lA := lt_of_heap hA
  have hch := (((((Chg.refl [] w1).alloc (Obj.map #[] 0)).alloc (Obj.cells #[Value.map (some w1.heap.size)] 106)).alloc (Obj.map #[] 0)).alloc (Obj.cells #[Value.map (some (w1.heap.size + 1 + 1))] 106)).alloc (Obj.map #[] 0) |>.alloc (Obj.cells #[Value.map (some (w1.heap.size + 1 + 1 + 1 + 1))] 107)
  refine ⟨⟨hch.get hA (by simp), ?_, ?_, ?_, ?_, ?_, ?_, by omega, by omega, by omega, hW, by omega, by omega, by omega, by omega, by omega, by omega, ownsRow_chg hr hch (by simp)⟩, hc.trans hch⟩
  · iterate 2 rw [Below.heap_alloc _ _ _ (by simp only [size_alloc]; omega)]
    exact heap_at_new _ _ (by simp only [size_alloc])
  · exact heap_at_new _ _ (by simp only [size_alloc])
  · iterate 4 rw [Below.heap_alloc _ _ _ (by simp only [size_alloc]; omega)]
    exact heap_at_new _ _ (by simp only [size_alloc])
  · have h1 := mapIs_new ((w1.alloc (Obj.map #[] 0)).alloc (Obj.cells #[Value.map (some w1.heap.size)] 106))
    have h2 : (fun _ => none) = begAs S [] := by funext y; simp [begAs]
    rw [← h2]
    simp only [size_alloc] at h1
    refine MapIs.kept h1 ?_
    iterate 3 rw [Below.heap_alloc _ _ _ (by simp only [size_alloc]; omega)]
  · have h1 := mapIs_new ((((w1.alloc (Obj.map #[] 0)).alloc (Obj.cells #[Value.map (some w1.heap.size)] 106)).alloc (Obj.map #[] 0)).alloc (Obj.cells #[Value.map (some (w1.heap.size + 1 + 1))] 106))
    have h2 : (fun _ => none) = distAs S [] := by funext y; simp [distAs]
    rw [← h2]
    simp only [size_alloc] at h1
    refine MapIs.kept h1 ?_
    iterate 1 rw [Below.heap_alloc _ _ _ (by simp only [size_alloc]; omega)]
  · have h1 := mapIs_new w1
    refine MapIs.kept h1 ?_
    iterate 5 rw [Below.heap_alloc _ _ _ (by simp only [size_alloc]; omega)]

/-- the k-th word of a row of words -/
theorem row_word {w : World} {base : Nat} {a : Option Addr} {n cap : Nat} {xs : List Int} (hr : w.ownsRow base 49 1 (.slice a n cap) n (words xs)) {k : Nat} (hk : k < n) :
    ∃ g, a = some ⟨g, 0, none⟩ ∧ g < w.heap.size ∧ w.cell? ⟨g, k, none⟩ = some (.int .u64 (wat xs k)) := by
  have hl : xs.length = n := by have := hr.1; simpa [words] using this
  rcases hr.2 with ⟨h1, h2⟩ | ⟨g, cap, cur, h1, _, h3, _, _, h4, h5⟩
  · omega
  · simp only [Value.slice.injEq] at h1
    refine ⟨g, h1.1, lt_of_heap h3, cell_at h3 ?_⟩
    have h6 := words_get (xs := xs) (k := k) (by omega)
    rw [← h5, List.getElem?_take] at h6
    simpa [hk] using h6

/-- the k-th kept block -/
theorem row_kept {w : World} {base : Nat} {a : Option Addr} {n cap : Nat} {ks : List (Blk × Value)} (hr : w.ownsRow base 87 2 (.slice a n cap) n (kcells ks)) {k : Nat} {q : Blk × Value} (hq : ks[k]? = some q) :
    ∃ g, a = some ⟨g, 0, none⟩ ∧ g < w.heap.size ∧ w.cell? ⟨g, k * 2, none⟩ = some (.int .i64 ((q.1.tag : Nat) : Int)) ∧ w.cell? ⟨g, k * 2 + 1, none⟩ = some q.2 := by
  have hl : ks.length = n := by have := hr.1; rw [kcells_len] at this; omega
  have hk : k < n := by have := (List.getElem?_eq_some_iff.1 hq).1; omega
  obtain ⟨q1, q2⟩ := kcells_get ks k q hq
  rcases hr.2 with ⟨h1, h2⟩ | ⟨g, cap, cur, h1, _, h3, _, _, h4, h5⟩
  · omega
  · simp only [Value.slice.injEq] at h1
    rw [← h5, List.getElem?_take, if_pos (by omega)] at q1 q2
    refine ⟨g, h1.1, lt_of_heap h3, cell_at h3 (by simpa using q1), cell_at h3 (by simpa using q2)⟩

theorem ptrs_at {S : St} {g : List Nat} {k i : Nat} (h : g[k]? = some i) : wat (ptrs S g) k = 2 * ((S.pos i : Nat) : Int) := by
  unfold wat ptrs
  rw [List.getD_eq_getElem?_getD, List.getElem?_map, h]
  rfl

theorem cells_two (w : World) (x y : Value) (t : TypeId) : ∀ j u, [x, y][j]? = some u → (w.alloc (.cells #[x, y] t)).cell? ((⟨w.heap.size, 0, none⟩ : Addr).add j) = some u := by
  intro j u hj
  have h0 := heap_alloc_new w (.cells #[x, y] t)
  match j, hj with
  | 0, hj => exact cell_at h0 (by simpa using hj)
  | 1, hj => exact cell_at h0 (by simpa using hj)
  | j + 2, hj => simp at hj

/-- in loop 1: k blocks are kept, and their words noted -/
structure L1 (W wr : World) (p : Nat) (S : St) (bA bB bD bT mB mD mT : Nat) (fv : Value) (g : List Nat) (k : Nat) (kv : Value) (ks : List (Blk × Value)) (l : List Int) : Prop where
  env : CE W wr p S bA bB bD bT mB mD mT l (fun _ => none) fv g
  chg : Chg [] W wr
  kp : Kp W wr kv ks
  are : ks.map (·.1) = (g.take k).map S.blk
  all : ∀ j ∈ g.take k, ∀ x ∈ (S.blk j).words, x ∈ l

/-- while words are noted -/
structure N1 (W wr : World) (p : Nat) (S : St) (bA bB bD bT mB mD mT : Nat) (fv : Value) (g : List Nat) (kv : Value) (ks : List (Blk × Value)) (l xs : List Int) (j : Nat) (l' : List Int) : Prop where
  env : CE W wr p S bA bB bD bT mB mD mT l' (fun _ => none) fv g
  chg : Chg [] W wr
  kp : Kp W wr kv ks
  old : ∀ x ∈ l, x ∈ l'
  new : ∀ x ∈ xs.take j, x ∈ l'

theorem N1.step {W wr w' : World} {p : Nat} {S : St} {bA bB bD bT mB mD mT : Nat} {fv : Value} {g : List Nat} {kv : Value} {ks : List (Blk × Value)} {l xs : List Int} {j : Nat} {l' : List Int} (H : N1 W wr p S bA bB bD bT mB mD mT fv g kv ks l xs j l') (hj : j < xs.length)
    (hn : CN W w' p S bA bB bD mB mD (wat xs j :: l')) (hc : Chg [mB, mD] wr w') : N1 W w' p S bA bB bD bT mB mD mT fv g kv ks l xs (j + 1) (wat xs j :: l') := by
  refine ⟨H.env.noted hn hc, hn.chg, ⟨H.env.noted_row hc H.kp.row (Nat.le_refl _), fun q hq => H.env.noted_row hc (H.kp.each q hq) (Nat.le_refl _)⟩, fun x hx => List.mem_cons_of_mem _ (H.old x hx), ?_⟩
  intro x hx
  rw [List.take_add_one, wat_get hj, List.mem_append] at hx
  rcases hx with hx | hx
  · exact List.mem_cons_of_mem _ (H.new x hx)
  · simp only [Option.toList_some, List.mem_singleton] at hx
    rw [hx]; simp

theorem L1.len {W wr : World} {p : Nat} {S : St} {bA bB bD bT mB mD mT : Nat} {fv : Value} {g : List Nat} {k : Nat} {kv : Value} {ks : List (Blk × Value)} {l : List Int} (H : L1 W wr p S bA bB bD bT mB mD mT fv g k kv ks l) (hk : k ≤ g.length) : ks.length = k := by
  have h := congrArg List.length H.are
  simp at h
  omega

theorem take_one {g : List Nat} {k i : Nat} (h : g[k]? = some i) : g.take (k + 1) = g.take k ++ [i] := by
  rw [List.take_add_one, h]; rfl

/-- behind the append of the k-th block -/
theorem l1_push {W wr w2 w4 : World} {p : Nat} {S : St} {bA bB bD bT mB mD mT : Nat} {fv : Value} {g : List Nat} {k i : Nat} {kv kv' sl : Value} {ks : List (Blk × Value)} {l : List Int} {o1 o2 : Obj} (H : L1 W wr p S bA bB bD bT mB mD mT fv g k kv ks l) (hk : k < g.length) (hi : g[k]? = some i)
    (hc : Chg [] wr w2) (hr : w2.ownsRow wr.heap.size 49 1 sl (S.blk i).fs.length (words (S.blk i).fs)) (hg : ((w2.alloc o1).alloc o2).grownBy w4 kv.ownBlock)
    (hown : w4.ownsRow W.heap.size 87 2 kv' (k + 1) (kcells ks ++ [.int .i64 (((S.blk i).tag : Nat) : Int), sl])) :
    CE W w4 p S bA bB bD bT mB mD mT l (fun _ => none) fv g ∧ Chg [] W w4 ∧ Kp W w4 kv' (ks ++ [(S.blk i, sl)]) ∧ (ks ++ [(S.blk i, sl)]).map (·.1) = (g.take (k + 1)).map S.blk ∧ w4.heap[w2.heap.size]? = some o1 := by
  have hl := H.len (Nat.le_of_lt hk)
  rw [← hl] at hown
  obtain ⟨q1, q2, q3⟩ := kp_push H.kp H.chg.size hc hr hg hown
  have hap := own_apart (W := W) H.kp.row (ts := tsE) (by decide)
  have hmo := H.env.maps_out (F := kv.ownBlock.toList) (by
    intro b hb
    rw [Option.mem_toList] at hb
    rcases H.kp.row.2 with ⟨rfl, _⟩ | ⟨g, cap, cur, rfl, h1, h2, _⟩
    · simp [Value.ownBlock] at hb
    · have e1 : g = b := by simpa [Value.ownBlock] using hb
      subst e1
      exact .inr ⟨_, _, _, h2⟩)
  refine ⟨H.env.keep q2 hap hmo.1 hmo.2.1 hmo.2.2, H.chg.over q2 ?_, q1, ?_, q3⟩
  · intro b hb
    rw [Option.mem_toList] at hb
    exact (H.kp.row.lt b hb).1
  · rw [List.map_append, H.are, take_one hi, List.map_append]; rfl

theorem kept_at {S : St} {g : List Nat} {ks : List (Blk × Value)} (h : ks.map (·.1) = g.map S.blk) {k i : Nat} (hi : g[k]? = some i) : ∃ sl, ks[k]? = some (S.blk i, sl) := by
  have h1 := congrArg (fun x => x[k]?) h
  simp only [List.getElem?_map, hi, Option.map_some] at h1
  cases hk : ks[k]? with
  | none => rw [hk] at h1; cases h1
  | some q =>
    rw [hk] at h1
    simp only [Option.map_some, Option.some.injEq] at h1
    exact ⟨q.2, by rw [← h1]⟩

theorem kept_len {S : St} {g : List Nat} {ks : List (Blk × Value)} (h : ks.map (·.1) = g.map S.blk) : ks.length = g.length := by
  have := congrArg List.length h
  simpa using this

theorem p2_start {W wr w8 : World} {p h c : Nat} {sv : Value} {cs : List Int} {S : St} {bA bB bD bT mB mD mT : Nat} {fv : Value} {g : List Nat} {kv : Value} {ks : List (Blk × Value)} {l xs : List Int} {j : Nat} {l' : List Int} {nv : Value} {roots : List Int} (HA : AM W p h c sv cs S) (H : N1 W wr p S bA bB bD bT mB mD mT fv g kv ks l xs j l')
    (hn : wr.ownsRow W.heap.size 49 1 nv roots.length (words roots)) (hc : Chg [p, h] wr w8) (hm : AM w8 p h c (.slice none 0 0) cs S.flip) : P2 W w8 p h c sv S (S.laid g 0) bA bB bD bT mB mD mT l' (toAs S g 0) fv g kv ks nv roots (.slice none 0 0) cs := by
  have h1 := lt_of_heap HA.a
  have h2 := lt_of_heap HA.hv
  have hap : ∀ ts : List TypeId, ∀ k ∈ [p, h], Apart W wr ts k := by
    intro ts k hk
    simp only [List.mem_cons, List.not_mem_nil, or_false] at hk
    rcases hk with rfl | rfl
    · exact .inl h1
    · exact .inl h2
  have hmo := H.env.maps_out (F := [p, h]) (fun k hk => .inl (by simp only [List.mem_cons, List.not_mem_nil, or_false] at hk; rcases hk with rfl | rfl <;> assumption))
  refine ⟨hm, fun k hk => by simp [Value.ownBlock] at hk, H.env.keep hc (hap _) hmo.1 hmo.2.1 hmo.2.2, (H.chg.mono (by simp)).trans (hc.mono (by simp [foot])), H.kp.keep hc (hap _), row_keep hn (Nat.le_refl _) hc (hap _)⟩

set_option maxHeartbeats 4000000 in
set_option maxRecDepth 100000 in
theorem collect_am (HA : AM W p h c sv cs S) (rv : Value) (roots : List Int) (hr : W.ownsRow 0 49 1 rv roots.length (words roots)) (hw : ∀ x ∈ roots, Wd x) (hrl : roots.length ≤ 1000000) :
    Calls Try.prog 56 #[.pointer (some ⟨p, 0, none⟩), rv] W fun e w' => ∃ v, e = .returned v ∧ Chg (foot p h c sv) W w' ∧ (∃ sv' cs', AM w' p h c sv' cs' (S.coll roots) ∧ ∀ k, sv'.ownBlock = some k → k ∈ foot p h c sv ∨ W.heap.size ≤ k) ∧
      w'.ownsRow W.heap.size 49 1 v roots.length (words (S.now roots)) := by
  have hmm := @run_makeMap Try.prog
  have HR := reach_am (HA.chg ((Chg.refl [] W).alloc (.cells #[.pointer (some ⟨p, 0, none⟩)] 44)) (by simp)) rv roots (hr.alloc _) hw hrl
  obtain ⟨ra, rc, rfl⟩ := ownsRow_slice hr
  have HR0 := Lib.hid HR
  have HR1 := Lib.hid hr
  clear HR hr
  go_enter Try.func56, Try.ntmps56
  go_wp2_with (go_at_call 16; refine HR0.out.mono ?_; rintro e w1 ⟨fv, rfl, hch1, hrow1⟩; have HC1 := Lib.hid hch1; have HF1 := Lib.hid hrow1; obtain ⟨fa, fc, rfl⟩ := ownsRow_slice hrow1; clear hch1 hrow1)
  have hc1 : Chg [] W w1 := ((Chg.refl [] W).alloc _).trans HC1.out
  obtain ⟨w6, hw6⟩ : ∃ o, o = ((((((w1.alloc (Obj.map #[] 0)).alloc (Obj.cells #[Value.map (some w1.heap.size)] 106)).alloc (Obj.map #[] 0)).alloc (Obj.cells #[Value.map (some (w1.heap.size + 1 + 1))] 106)).alloc (Obj.map #[] 0)).alloc (Obj.cells #[Value.map (some (w1.heap.size + 1 + 1 + 1 + 1))] 107)) := ⟨_, rfl⟩
  have hcew := ce_new (S := S) (g := S.reach roots) (fv := .slice fa (S.reach roots).length fc) hw6 (HC1.out.get (heap_alloc_new W _) (by simp)) (Nat.le_refl _) (own_low HF1.out (by simp only [size_alloc]; omega)) hc1
  rw [← hw6]
  have hgood := good_reach S roots
  have hgl : (S.reach roots).length ≤ 32768 := by have h5 := hgood.length_le; have h6 := HA.count; omega
  obtain ⟨g, hgeq⟩ : ∃ g, g = S.reach roots := ⟨_, rfl⟩
  rw [← hgeq] at hcew hgood hgl ⊢
  clear hw6 HF1 HC1 HR0 hc1 hmm
  obtain ⟨bA, hbA⟩ : ∃ bA, bA = W.heap.size := ⟨_, rfl⟩
  rw [← hbA] at hcew ⊢
  clear hbA
  generalize w1.heap.size + 1 + 1 + 1 + 1 + 1 = bD at hcew ⊢
  generalize w1.heap.size + 1 + 1 + 1 + 1 = mD at hcew ⊢
  generalize w1.heap.size + 1 + 1 + 1 = bB at hcew ⊢
  generalize w1.heap.size + 1 + 1 = mB at hcew ⊢
  generalize w1.heap.size + 1 = bT at hcew ⊢
  generalize w1.heap.size = mT at hcew ⊢
  have HGE := Lib.hid hgeq
  have HGD := Lib.hid hgood
  have HCE := Lib.hid hcew
  clear hgeq hgood hcew
  obtain ⟨i1, hi1, hz10, hz11, hz12⟩ := info_parts info_block2
  go_loopg [7, 41] g.length (fun gh v7 v41 wr => ∃ k : Nat, gh = g.length - k ∧ k ≤ g.length ∧ v41 = .int .i64 k ∧ ∃ ka kc ks l, v7 = .slice ka k kc ∧ L1 W wr p S bA bB bD bT mB mD mT (.slice fa g.length fc) g k (.slice ka k kc) ks l)
  case atStart => exact ⟨0, rfl, Nat.zero_le _, rfl, none, 0, [], [], rfl, HCE.out.1, HCE.out.2, ⟨⟨rfl, .inl ⟨rfl, rfl⟩⟩, by simp⟩, by simp, by simp⟩
  case round =>
    have HR2 := HR1
    clear HCE HR1
    obtain ⟨k, hgk, hk, rfl, ka, kc, ks, l, rfl, hm⟩ := hrel
    by_cases hlt : k < g.length
    · have hdec : decide ((k : Int) < (g.length : Int)) = true := decide_eq_true (by omega)
      obtain ⟨gf, rfl, lf, cf⟩ := row_word hm.env.frm hlt
      obtain ⟨i, hi⟩ : ∃ i, g[k]? = some i := ⟨_, List.getElem?_eq_getElem hlt⟩
      rw [ptrs_at hi] at cf
      have hil : i < S.L.length := HGD.out.lt i (List.mem_of_getElem? hi)
      have hpl := pos_le HA.ok hil
      have cA := cell_at hm.env.kA (o := 0) rfl
      have hrd : Calls Try.prog 39 #[.pointer (some ⟨p, 0, none⟩), .int .u64 (2 * ((S.pos i : Nat) : Int))] wr fun e w' => ∃ a c, e = .returned (.agg #[.int .i64 (((S.blk i).tag : Nat) : Int), .slice a (S.blk i).fs.length c]) ∧ Chg [] wr w' ∧
          w'.ownsRow wr.heap.size 49 1 (.slice a (S.blk i).fs.length c) (S.blk i).fs.length (words (S.blk i).fs) := by
        refine (read_am (HA.chg hm.chg (by simp)) (2 * ((S.pos i : Nat) : Int)) (by omega) (by omega) (q := (i, 0)) (find_ptr HA.ok hil)).mono ?_
        rintro e w' ⟨v, he, hc, hrow⟩
        obtain ⟨a, c, rfl⟩ := ownsRow_slice hrow
        exact ⟨a, c, he, hc, hrow⟩
      have HRD := Lib.hid hrd
      have HM := Lib.hid hm
      have HKL := Lib.hid (hm.len hk)
      have hWr := hm.chg.size
      clear hrd hm
      go_wp2_with fail
      refine HRD.out.mono ?_
      rintro e w2 ⟨a, c2, rfl, hc2, hrow2⟩
      have hsz2 := hc2.size
      have hk2 := ownsRow_chg HM.out.kp.row hc2 (by simp)
      rw [HKL.out] at hk2
      have HK2 := Lib.hid ((hk2.alloc (.cells #[.int .i64 (((S.blk i).tag : Nat) : Int), .slice a (S.blk i).fs.length c2] 87)).alloc (.cells #[.int .i64 (((S.blk i).tag : Nat) : Int), .slice a (S.blk i).fs.length c2] 87))
      have HC2 := Lib.hid hc2
      have HROW2 := Lib.hid hrow2
      have hct := cells_two (w2.alloc (.cells #[.int .i64 (((S.blk i).tag : Nat) : Int), .slice a (S.blk i).fs.length c2] 87)) (.int .i64 (((S.blk i).tag : Nat) : Int)) (.slice a (S.blk i).fs.length c2) 87
      rw [size_alloc] at hct
      have HCT := Lib.hid hct
      clear hk2 hc2 hrow2 hct
      have hcl := HKL.out
      go_upto_region 12 with (at_builtin; refine wpList_append_own_at _ rfl _ _ 105 rfl W.heap.size 87 i1 (.agg #[.int .i64 0, .slice none 0 0]) 2 32 Try.underlying105 hi1 hz10 hz11 hz12 rfl (by decide) _ _ _ rfl HK2.out ⟨w2.heap.size + 1, 0, none⟩ 1 1 [.int .i64 (((S.blk i).tag : Nat) : Int), .slice a (S.blk i).fs.length c2] rfl rfl HCT.out (by intro u hu; simp at hu; rcases hu with rfl | rfl <;> rfl) (by unfold maxLen; omega) (by omega) (by simp only [size_alloc]; omega) ?_; intro v' w4 hown4 hgrow4 hnil hloc; have HO4 := Lib.hid hown4; have HG4 := Lib.hid hgrow4; obtain ⟨ka', kc', hv'⟩ := ownsRow_slice hown4; clear hown4 hgrow4 hnil hloc; subst hv')
      obtain ⟨e4, c4, p4, r4, b4⟩ := l1_push HM.out hlt hi HC2.out HROW2.out HG4.out HO4.out
      have cb0 := cell_at b4 (o := 0) (v := .int .i64 (((S.blk i).tag : Nat) : Int)) rfl
      have cb1 := cell_at b4 (o := 1) (v := .slice a (S.blk i).fs.length c2) rfl
      have hal := HM.out.all
      have HP4 := Lib.hid (And.intro e4 (And.intro c4 (And.intro p4 (And.intro r4 (And.intro hi hal)))))
      have hbo := HA.blkOk hil
      have hfl := hbo.size
      clear e4 c4 p4 r4 b4 hal hi HK2 HCT HG4 HO4 HROW2 HC2 HM HRD
      by_cases ht : (S.blk i).tag = 202
      · have hdt : ((((S.blk i).tag : Nat) : Int) != 202) = false := bne_eq_false_iff_eq.2 (by omega)
        go_wp2
        go_roundg (g.length - (k + 1))
        case measure => omega
        case rel =>
          obtain ⟨e4, c4, p4, r4, hi, hal⟩ := HP4.out
          refine ⟨k + 1, rfl, by omega, by go_num, ka', kc', _, l, rfl, ⟨e4, c4, p4, r4, ?_⟩⟩
          intro j hj x hx
          rw [take_one hi, List.mem_append, List.mem_singleton] at hj
          rcases hj with hj | rfl
          · exact hal j hj x hx
          · unfold Blk.words at hx
            rw [if_pos ht] at hx
            cases hx
      · have hdt : ((((S.blk i).tag : Nat) : Int) != 202) = true := bne_iff_ne.2 (by omega)
        go_wp2
        generalize ((((S.blk i).tag : Nat) : Int) != 202) = bb
        generalize hfs : (S.blk i).fs = fs at *
        go_loopg [58] fs.length (fun gi v wr2 => ∃ j : Nat, gi = fs.length - j ∧ j ≤ fs.length ∧ v = .int .i64 j ∧ ∃ l', N1 W wr2 p S bA bB bD bT mB mD mT (.slice (some ⟨gf, 0, none⟩) g.length fc) g (.slice ka' (k + 1) kc') (ks ++ [(S.blk i, .slice a fs.length c2)]) l fs j l')
        case atStart => exact ⟨0, rfl, Nat.zero_le _, rfl, l, HP4.out.1, HP4.out.2.1, HP4.out.2.2.1, fun x hx => hx, by simp⟩
        case round =>
          obtain ⟨j, hgj, hj, rfl, l', hn⟩ := hrel
          clear cb0 cb1
          by_cases hlt2 : j < fs.length
          · have hdec2 : decide ((j : Int) < (fs.length : Int)) = true := decide_eq_true (by omega)
            have hrw := hn.kp.each (S.blk i, .slice a fs.length c2) (by simp)
            dsimp only at hrw
            rw [hfs] at hrw
            obtain ⟨ga, rfl, la, ca⟩ := row_word hrw hlt2
            have hwd := hbo.words (wat fs j) (by rw [hfs]; exact wat_mem hlt2)
            have HNT := Lib.hid (note_am HA (hn.env.note hn.chg) (wat fs j) hwd.1 hwd.2)
            have HN := Lib.hid hn
            clear hn hrw hdt
            go_wp2_with (go_at_call 67; refine HNT.out.mono ?_; rintro e w5 ⟨rfl, hn5, hc5⟩; have HN5 := Lib.hid (HN.out.step hlt2 hn5 hc5); clear hn5 hc5)
            go_roundg (fs.length - (j + 1))
            case measure => omega
            case rel => exact ⟨j + 1, rfl, by omega, by go_num, _, HN5.out⟩
          · obtain rfl : j = fs.length := by omega
            have hdec2 : decide ((fs.length : Int) < (fs.length : Int)) = false := decide_eq_false (by omega)
            have HN := Lib.hid hn
            clear hn hdt
            go_wp2
            go_roundg (g.length - (k + 1))
            case measure => omega
            case rel =>
              obtain ⟨e4, c4, p4, r4, hi, hal⟩ := HP4.out
              refine ⟨k + 1, rfl, by omega, by go_num, ka', kc', _, l', rfl, ⟨HN.out.env, HN.out.chg, HN.out.kp, r4, ?_⟩⟩
              intro j hj x hx
              rw [take_one hi, List.mem_append, List.mem_singleton] at hj
              rcases hj with hj | rfl
              · exact HN.out.old x (hal j hj x hx)
              · unfold Blk.words at hx
                rw [if_neg ht, hfs] at hx
                exact HN.out.new x (by rw [List.take_length]; exact hx)
    · obtain rfl : k = g.length := by omega
      have hdec : decide ((g.length : Int) < (g.length : Int)) = false := decide_eq_false (by omega)
      have HM := Lib.hid hm
      have HCL := Lib.hid (clone_am (w := wr) 0 (.slice ra roots.length rc) roots (ownsRow_chg HR2.out hm.chg (by simp)) hrl)
      clear hm
      go_wp2_with fail
      refine HCL.out.mono ?_
      rintro e w7 ⟨nv, rfl, hc7, hnow⟩
      obtain ⟨na, nc, rfl⟩ := ownsRow_slice hnow
      have hn0 : N1 W w7 p S bA bB bD bT mB mD mT (.slice fa g.length fc) g (.slice ka g.length kc) ks l roots 0 l := by
        have hm := HM.out
        exact ⟨hm.env.keep hc7 (by simp) (by simp) (by simp) (by simp), hm.chg.trans hc7, hm.kp.keep hc7 (by simp), fun x hx => hx, by simp⟩
      have HN0 := Lib.hid (And.intro hn0 (own_low hnow HM.out.chg.size))
      clear hn0 hnow hc7
      go_wp2_with fail
      go_loopg [71] roots.length (fun gi v wr2 => ∃ j : Nat, gi = roots.length - j ∧ j ≤ roots.length ∧ v = .int .i64 j ∧ ∃ l', N1 W wr2 p S bA bB bD bT mB mD mT (.slice fa g.length fc) g (.slice ka g.length kc) ks l roots j l' ∧
        wr2.ownsRow W.heap.size 49 1 (.slice na roots.length nc) roots.length (words roots))
      case atStart => exact ⟨0, rfl, Nat.zero_le _, rfl, l, HN0.out⟩
      case round =>
        obtain ⟨j, hgj, hj, rfl, l', hn, hrw⟩ := hrel
        clear HN0
        by_cases hlt2 : j < roots.length
        · have hdec2 : decide ((j : Int) < (roots.length : Int)) = true := decide_eq_true (by omega)
          obtain ⟨ga, rfl, la, ca⟩ := row_word hrw hlt2
          have hwd := hw (wat roots j) (wat_mem hlt2)
          have HNT := Lib.hid (note_am HA (hn.env.note hn.chg) (wat roots j) hwd.1 hwd.2)
          have HN := Lib.hid (And.intro hn hrw)
          clear hn hrw
          go_wp2_with (go_at_call 67; refine HNT.out.mono ?_; rintro e w5 ⟨rfl, hn5, hc5⟩; have HN5 := Lib.hid (And.intro (HN.out.1.step hlt2 hn5 hc5) (HN.out.1.env.noted_row hc5 HN.out.2 (Nat.le_refl _))); clear hn5 hc5)
          go_roundg (roots.length - (j + 1))
          case measure => omega
          case rel => exact ⟨j + 1, rfl, by omega, by go_num, _, HN5.out⟩
        · obtain rfl : j = roots.length := by omega
          have hdec2 : decide ((roots.length : Int) < (roots.length : Int)) = false := decide_eq_false (by omega)
          have cA := cell_at hn.env.kA (o := 0) rfl
          have HFL := Lib.hid (flip_am (HA.chg hn.chg (by simp)))
          have HN := Lib.hid (And.intro hn hrw)
          clear hn hrw
          go_wp2_with fail
          refine HFL.out.mono ?_
          rintro e w8 ⟨rfl, hc8, hm8⟩
          have p2 := p2_start HA HN.out.1 HN.out.2 hc8 hm8
          have hnotes : (∀ x ∈ roots, x ∈ l') ∧ ∀ i ∈ g, ∀ x ∈ (S.blk i).words, x ∈ l' := by
            refine ⟨fun x hx => HN.out.1.new x (by rw [List.take_length]; exact hx), fun i hi x hx => HN.out.1.old x (HM.out.all i (by rw [List.take_length]; exact hi) x hx)⟩
          have hare := HM.out.are
          rw [List.take_length] at hare
          have HP2 := Lib.hid p2
          have HNO := Lib.hid hnotes
          have HAR := Lib.hid hare
          clear hc8 hm8 p2 hnotes hare HM HN HCL HFL cA HR2
          go_wp2_with fail
          go_loopg [83] g.length (fun gi v wr2 => ∃ k : Nat, gi = g.length - k ∧ k ≤ g.length ∧ v = .int .i64 k ∧ ∃ sv2 ds, P2 W wr2 p h c sv S (S.laid g k) bA bB bD bT mB mD mT l' (toAs S g k) (.slice fa g.length fc) g (.slice ka g.length kc) ks (.slice na roots.length nc) roots sv2 ds)
          case atStart => exact ⟨0, rfl, Nat.zero_le _, rfl, _, _, HP2.out⟩
          case round =>
            clear HP2
            obtain ⟨k, hgk, hk, rfl, sv2, ds, hp⟩ := hrel
            by_cases hlt3 : k < g.length
            · have hdec3 : decide ((k : Int) < (g.length : Int)) = true := decide_eq_true (by omega)
              obtain ⟨i, hi⟩ : ∃ i, g[k]? = some i := ⟨_, List.getElem?_eq_getElem hlt3⟩
              obtain ⟨gf, rfl, lf, cf⟩ := row_word hp.env.frm hlt3
              rw [ptrs_at hi] at cf
              obtain ⟨sl, hsl⟩ : ∃ sl, ks[k]? = some (S.blk i, sl) := kept_at HAR.out hi
              have hsr := hp.kp.each _ (List.mem_of_getElem? hsl)
              obtain ⟨sa, sc, e⟩ := ownsRow_slice hsr
              dsimp only at e
              subst e
              have hkr := hp.kp.row
              rw [kept_len HAR.out] at hkr
              obtain ⟨gk2, rfl, lk, ck0, ck1⟩ := row_kept hkr hsl
              dsimp only at ck0 ck1
              have cA := cell_at hp.env.kA (o := 0) rfl
              have cT := cell_at hp.env.kT (o := 0) rfl
              have HAL := Lib.hid (p2_alloc HA HGD.out hp hi)
              clear hp hkr hsr hsl hi
              go_upto_region 29 with fail
              go_region_with (go_at_call 52; refine HAL.out.mono ?_; rintro e w9 ⟨w10, rfl, k1, r1, hfin⟩)
              all_goals
                go_wp2
                go_roundg (g.length - (k + 1))
                case measure => omega
                case rel => exact ⟨k + 1, rfl, by omega, by go_num, hfin.out⟩
            · obtain rfl : k = g.length := by omega
              have hdec3 : decide ((g.length : Int) < (g.length : Int)) = false := decide_eq_false (by omega)
              rw [laid_all] at hp
              have HP := Lib.hid hp
              clear hp
              go_wp2_with fail
              go_loopg [110] g.length (fun gi v wr2 => ∃ k : Nat, gi = g.length - k ∧ k ≤ g.length ∧ v = .int .i64 k ∧ ∃ sv2 ds, P2 W wr2 p h c sv S (S.part g k 0) bA bB bD bT mB mD mT l' (toAs S g g.length) (.slice fa g.length fc) g (.slice ka g.length kc) ks (.slice na roots.length nc) roots sv2 ds)
              case atStart => exact ⟨0, rfl, Nat.zero_le _, rfl, _, _, HP.out⟩
              case round =>
                clear HP
                obtain ⟨k, hgk, hk, rfl, sv2, ds, hp⟩ := hrel
                by_cases hlt5 : k < g.length
                · have hdec5 : decide ((k : Int) < (g.length : Int)) = true := decide_eq_true (by omega)
                  obtain ⟨i, hi⟩ : ∃ i, g[k]? = some i := ⟨_, List.getElem?_eq_getElem hlt5⟩
                  have hil : i < S.L.length := HGD.out.lt i (List.mem_of_getElem? hi)
                  have hbo := HA.blkOk hil
                  have hfl := hbo.size
                  obtain ⟨gf, rfl, lf, cf⟩ := row_word hp.env.frm hlt5
                  rw [ptrs_at hi] at cf
                  obtain ⟨sl, hsl⟩ : ∃ sl, ks[k]? = some (S.blk i, sl) := kept_at HAR.out hi
                  obtain ⟨sa, sc, e⟩ := ownsRow_slice (hp.kp.each _ (List.mem_of_getElem? hsl))
                  dsimp only at e
                  subst e
                  have hkr := hp.kp.row
                  rw [kept_len HAR.out] at hkr
                  obtain ⟨gk2, rfl, lk, ck0, ck1⟩ := row_kept hkr hsl
                  dsimp only at ck0 ck1
                  have HP := Lib.hid hp
                  have HI := Lib.hid hi
                  have HSL := Lib.hid hsl
                  have HE : Hid (g.getD k 0 = i) := by
                    show g.getD k 0 = i
                    rw [List.getD_eq_getElem?_getD, hi]; rfl
                  clear hp hkr hsl hi
                  go_wp2_with fail
                  go_loopg [121] (S.blk i).fs.length (fun gi v wr2 => ∃ j : Nat, gi = (S.blk i).fs.length - j ∧ j ≤ (S.blk i).fs.length ∧ v = .int .i64 j ∧ ∃ sv2 ds, P2 W wr2 p h c sv S (S.part g k j) bA bB bD bT mB mD mT l' (toAs S g g.length) (.slice (some ⟨gf, 0, none⟩) g.length fc) g (.slice (some ⟨gk2, 0, none⟩) g.length kc) ks (.slice na roots.length nc) roots sv2 ds)
                  case atStart => exact ⟨0, rfl, Nat.zero_le _, rfl, _, _, HP.out⟩
                  case round =>
                    clear HP ck0 ck1 cf lf lk
                    obtain ⟨j, hgj, hj, rfl, sv3, ds3, hp⟩ := hrel
                    by_cases hlt6 : j < (S.blk i).fs.length
                    · have hdec6 : decide ((j : Int) < ((S.blk i).fs.length : Int)) = true := decide_eq_true (by omega)
                      have hkr := hp.kp.row
                      rw [kept_len HAR.out] at hkr
                      obtain ⟨gk3, e3, lk, ck0, ck1⟩ := row_kept hkr HSL.out
                      simp only [Option.some.injEq, Addr.mk.injEq, and_true] at e3
                      subst e3
                      dsimp only at ck0 ck1
                      obtain ⟨ga, rfl, la, ca⟩ := row_word (hp.kp.each _ (List.mem_of_getElem? HSL.out)) hlt6
                      have cA := cell_at hp.env.kA (o := 0) rfl
                      have cT := cell_at hp.env.kT (o := 0) rfl
                      have hwd := hbo.words _ (wat_mem hlt6)
                      have hto := look_to hp.env.tos (x := 2 * ((S.pos i : Nat) : Int)) (y := 2 * ((npos S g k : Nat) : Int)) (by rw [← HE.out]; exact toAs_at HGD.out _ hlt5 (Nat.le_refl _))
                      have hto0 : (Instr.lookup 106 (.map (some mT)) (.int .u64 (2 * ((S.pos i : Nat) : Int))) false).run Try.prog wr = .ok (.int .u64 (2 * ((npos S g k : Nat) : Int))) wr := hto 0
                      by_cases ht : (S.blk i).tag = 202
                      · have hdt : ((((S.blk i).tag : Nat) : Int) != 202) = false := bne_eq_false_iff_eq.2 (by omega)
                        have HST := Lib.hid (p2_set HA HGD.out hp HI.out hlt6 (v := wat (S.blk i).fs j) (by rw [mvB_at hlt6, if_pos ht]) hwd)
                        clear hp hkr
                        go_wp2_with (go_at_call 34; refine HST.out.mono ?_; rintro e w9 ⟨rfl, sv4, ds4, hp4⟩; have HP4 := Lib.hid hp4; clear hp4)
                        go_roundg ((S.blk i).fs.length - (j + 1))
                        case measure => omega
                        case rel => exact ⟨j + 1, rfl, by omega, by go_num, _, _, HP4.out⟩
                      · have hdt : ((((S.blk i).tag : Nat) : Int) != 202) = true := bne_iff_ne.2 (by omega)
                        have hin : ∀ i' d, S.find (wat (S.blk i).fs j) = some (i', d) → i' ∈ g := by
                          intro i' d hf
                          rw [HGE.out]
                          refine field_mem (HGE.out ▸ List.mem_of_getElem? HI.out) ?_ hf
                          unfold Blk.words
                          rw [if_neg ht]
                          exact wat_mem hlt6
                        have hxl : wat (S.blk i).fs j ∈ l' := HNO.out.2 i (List.mem_of_getElem? HI.out) _ (by unfold Blk.words; rw [if_neg ht]; exact wat_mem hlt6)
                        have HFX := Lib.hid (p2_fix HA.ok HGD.out hp hxl hwd hin)
                        have hmw := (mv_wd HA.ok HGD.out hwd hin).1
                        have HST := Lib.hid (fun n => p2_set HA HGD.out (hp.drewN n) HI.out hlt6 (v := mv S g (wat (S.blk i).fs j)) (by rw [mvB_at hlt6, if_neg ht]) hmw)
                        clear hp hkr hin hxl hmw
                        go_wp2_with (first | (go_at_call 69; refine HFX.out.mono ?_; rintro e w9 ⟨rfl, ⟨n, rfl⟩⟩) | (go_at_call 34; refine (HST.out n).mono ?_; rintro e w10 ⟨rfl, sv4, ds4, hp4⟩; have HP4 := Lib.hid hp4; clear hp4))
                        go_roundg ((S.blk i).fs.length - (j + 1))
                        case measure => omega
                        case rel => exact ⟨j + 1, rfl, by omega, by go_num, _, _, HP4.out⟩
                    · obtain rfl : j = (S.blk i).fs.length := by omega
                      have hdec6 : decide (((S.blk i).fs.length : Int) < ((S.blk i).fs.length : Int)) = false := decide_eq_false (by omega)
                      have hnx := part_next S g (k := k)
                      rw [HE.out] at hnx
                      rw [hnx] at hp
                      have HP := Lib.hid hp
                      clear hp hnx
                      go_wp2_with fail
                      go_roundg (g.length - (k + 1))
                      case measure => omega
                      case rel => exact ⟨k + 1, rfl, by omega, by go_num, _, _, HP.out⟩
                · obtain rfl : k = g.length := by omega
                  have hdec5 : decide ((g.length : Int) < (g.length : Int)) = false := decide_eq_false (by omega)
                  rw [part_all] at hp
                  have HP := Lib.hid hp
                  clear hp
                  go_wp2_with fail
                  go_loopg [146] roots.length (fun gi v wr2 => ∃ j : Nat, gi = roots.length - j ∧ j ≤ roots.length ∧ v = .int .i64 j ∧ ∃ sv2 ds, P3 W wr2 p h c sv S (moved S g) bB bT bD mB mT mD l' (toAs S g g.length) (.slice na roots.length nc) (half S g roots j) sv2 ds)
                  case atStart => exact ⟨0, rfl, Nat.zero_le _, rfl, _, _, HP.out.last⟩
                  case round =>
                    clear HP
                    obtain ⟨j, hgj, hj, rfl, sv3, ds3, hp⟩ := hrel
                    by_cases hlt7 : j < roots.length
                    · have hdec7 : decide ((j : Int) < (roots.length : Int)) = true := decide_eq_true (by omega)
                      have hrw := hp.now
                      rw [half_len] at hrw
                      obtain ⟨ga, rfl, la, ca⟩ := row_word hrw hlt7
                      rw [half_at S g hlt7] at ca
                      obtain ⟨ga', cap', e7, _, _, _, _, hfz⟩ := ownsRow_shape hrw (by omega)
                      simp only [Value.slice.injEq, Option.some.injEq, Addr.mk.injEq, and_true, true_and] at e7
                      obtain ⟨rfl, rfl⟩ := e7
                      have hfz := hfz j
                      have hwd := hw _ (wat_mem hlt7)
                      have hin : ∀ i' d, S.find (wat roots j) = some (i', d) → i' ∈ g := by
                        intro i' d hf
                        rw [HGE.out]
                        exact root_mem (wat_mem hlt7) hf
                      have hmw := mv_wd HA.ok HGD.out hwd hin
                      have HFX := Lib.hid (fix_am hp.kB hp.kT hp.kD hp.begs hp.dists hp.tos (wat roots j) (mv S g (wat roots j)) (HNO.out.1 _ (wat_mem hlt7)) hwd.1 hwd.2 hmw.2)
                      have HST := Lib.hid (fun n => (hp.drewN n).turn HA (gn := ga) (j := j) (x := mv S g (wat roots j)) rfl (by rw [half_len]; exact hlt7))
                      clear hp hrw hin hmw
                      go_wp2_with (go_at_call 69; refine HFX.out.mono ?_; rintro e w9 ⟨rfl, ⟨n, rfl⟩⟩)
                      go_roundg (roots.length - (j + 1))
                      case measure => omega
                      case rel => exact ⟨j + 1, rfl, by omega, by go_num, _, _, by rw [← half_set S g hlt7]; exact HST.out n⟩
                    · obtain rfl : j = roots.length := by omega
                      have hdec7 : decide ((roots.length : Int) < (roots.length : Int)) = false := decide_eq_false (by omega)
                      have HP := Lib.hid hp
                      clear hp
                      go_wp2_with fail
                      go_ret
                      refine ⟨_, rfl, HP.out.chg, ⟨sv3, ds3, ?_, HP.out.own⟩, ?_⟩
                      · have := HP.out.am
                        rw [HGE.out] at this
                        exact this
                      · have h1 := HP.out.now
                        rw [half_len] at h1
                        have h2 : half S g roots roots.length = S.now roots := by
                          unfold half St.now
                          rw [List.take_length, List.drop_length, List.append_nil, HGE.out]
                        rw [← h2]
                        exact h1
end

end Go.Proofs.Ytleoedjjepkhgaa
