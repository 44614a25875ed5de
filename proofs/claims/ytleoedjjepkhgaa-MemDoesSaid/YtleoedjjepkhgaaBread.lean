import Derived.Test.YtleoedjjepkhgaaMeet
/- copier.read: what is kept of a block. -/
namespace Go.Proofs.Ytleoedjjepkhgaa
open Go.RowKit

/-- in the middle: k fields are read -/
structure RdMid (w wr : World) (B R g t sz k : Nat) (fs ds : List Int) : Prop where
  chg : Chg [] w wr
  blk : wr.heap[B]? = some (.cells #[.int .i64 (t : Int), .slice (some ⟨g, 0, none⟩) sz sz] 87 (0, 0))
  res : wr.heap[R]? = some (.cells #[.int .i64 0, .slice none 0 0] 87 (0, 0))
  row : wr.heap[g]? = some (.cells (words ds).toArray 49 (0, 0))
  len : ds.length = sz
  same : ∀ j, j < k → wat ds j = wat fs j
  fB : w.heap.size ≤ B
  fR : w.heap.size ≤ R
  fg : w.heap.size ≤ g

theorem RdMid.step {w wr : World} {B R g t sz k : Nat} {fs ds : List Int} (H : RdMid w wr B R g t sz k fs ds) (hk : k < sz) (n : Nat) :
    RdMid w ((wr.drewN n).setCell ⟨g, k, none⟩ (.int .u64 (wat fs k))) B R g t sz (k + 1) fs (ds.set k (wat fs k)) := by
  have d1 : B ≠ g := row_ne (w := wr) H.blk H.row (by decide)
  have d2 : R ≠ g := row_ne (w := wr) H.res H.row (by decide)
  refine ⟨(H.chg.drewN n).set _ (.inr H.fg), (heap_set_ne _ d1).trans H.blk, (heap_set_ne _ d2).trans H.res, ?_, by rw [List.length_set]; exact H.len, ?_, H.fB, H.fR, H.fg⟩
  · rw [heap_set (w := wr.drewN n) H.row]
    exact congrArg (fun x => some (Obj.cells x _ _)) (words_set ds k (wat fs k))
  · intro j hj
    rw [wat_set _ _ _ _ (by rw [H.len]; exact hk)]
    by_cases e : j = k
    · rw [if_pos e, e]
    · rw [if_neg e]; exact H.same j (by omega)

section
variable {w : World} {p h c : Nat} {sv : Value} {cs : List Int} {S : St}

theorem wat_ext {a b : List Int} (hl : a.length = b.length) (h : ∀ j, j < b.length → wat a j = wat b j) : a = b := by
  apply List.ext_getElem hl
  intro j h1 h2
  have e1 := wat_get h1
  have e2 := wat_get h2
  rw [List.getElem?_eq_getElem h1] at e1
  rw [List.getElem?_eq_getElem h2] at e2
  simp only [Option.some.injEq] at e1 e2
  rw [e1, e2]
  exact h j h2

set_option maxHeartbeats 2000000 in
set_option maxRecDepth 100000 in
theorem read_am (H : AM w p h c sv cs S) (x : Int) (h0 : 0 ≤ x) (h1 : x < 18446744073709551616) {q : Nat × Nat} (hx : S.find x = some q) :
    Calls Try.prog 39 #[.pointer (some ⟨p, 0, none⟩), .int .u64 x] w fun e w' => ∃ v, e = .returned (.agg #[.int .i64 (((S.blk q.1).tag : Nat) : Int), v]) ∧ Chg [] w w' ∧
      w'.ownsRow w.heap.size 49 1 v (S.blk q.1).fs.length (words (S.blk q.1).fs) := by
  have hch0 := (Chg.refl [] w).alloc (.cells #[.int .i64 0, .slice none 0 0] 87)
  have hT : ∀ wr, Chg [] w wr → Calls Try.prog 25 #[.pointer (some ⟨p, 0, none⟩), .int .u64 x] wr fun e w' => e = .returned (.int .i64 (((S.blk q.1).tag : Nat) : Int)) ∧ ∃ n, w' = wr.drewN n := by
    intro wr hc
    have := tag_am (H.chg hc (by simp)) x h0 h1
    unfold St.tagOf at this
    rw [hx] at this
    exact this
  have hS : ∀ wr, Chg [] w wr → Calls Try.prog 26 #[.pointer (some ⟨p, 0, none⟩), .int .u64 x] wr fun e w' => e = .returned (.int .i64 (((S.blk q.1).fs.length : Nat) : Int)) ∧ ∃ n, w' = wr.drewN n := by
    intro wr hc
    have := size_am (H.chg hc (by simp)) x h0 h1
    unfold St.sizeOf at this
    rw [hx] at this
    exact this
  have hG : ∀ wr, Chg [] w wr → ∀ j : Nat, j < (S.blk q.1).fs.length → Calls Try.prog 27 #[.pointer (some ⟨p, 0, none⟩), .int .u64 x, .int .i64 j] wr fun e w' => e = .returned (.tuple #[.int .u64 (wat (S.blk q.1).fs j), .int .i64 0]) ∧ ∃ n, w' = wr.drewN n := by
    intro wr hc j hj
    have := get_am (H.chg hc (by simp)) x j h0 h1
    unfold St.get at this
    rw [hx] at this
    dsimp only at this
    rw [if_neg (by omega), Int.toNat_natCast] at this
    exact this
  have hb := H.bounds (find_lt hx)
  have hbo := H.blkOk (find_lt hx)
  obtain ⟨i0, hi, hz0, hz1, hz2⟩ := info_parts info_word
  clear H hx
  generalize (S.blk q.1).tag = t at *
  generalize (S.blk q.1).fs = fs at *
  clear hbo
  go_enter Try.func39, Try.ntmps39
  go_wp2_with fail
  refine (hT _ hch0).mono ?_
  rintro e w' ⟨rfl, ⟨n1, rfl⟩⟩
  have hr0 : ((w.alloc (.cells #[.int .i64 0, .slice none 0 0] 87)).drewN n1).heap[w.heap.size]? = some (.cells #[.int .i64 0, .slice none 0 0] 87 (0, 0)) := heap_alloc_new w _
  have hch1 := hch0.drewN n1
  obtain ⟨R, hR⟩ : ∃ R, R = w.heap.size := ⟨_, rfl⟩
  rw [← hR] at hr0 ⊢
  have fR : w.heap.size ≤ R := by omega
  clear hR hch0 hT
  generalize (w.alloc (.cells #[.int .i64 0, .slice none 0 0] 87)).drewN n1 = w1 at hr0 hch1 ⊢
  go_wp2_with fail
  refine (hS _ hch1).mono ?_
  rintro e w' ⟨rfl, ⟨n2, rfl⟩⟩
  have hr1 : (w1.drewN n2).heap[R]? = some (.cells #[.int .i64 0, .slice none 0 0] 87 (0, 0)) := hr0
  have hch2 := hch1.drewN n2
  clear hr0 hch1 hS
  generalize w1.drewN n2 = w2 at hr1 hch2 ⊢
  have hsz2 := hch2.size
  have hRl := lt_of_heap hr1
  go_wp2_with (at_make; refine wpList_make_full _ rfl _ _ 28 rfl w.heap.size 49 i0 (.int .u64 0) 1 Try.underlying28 hi hz0 hz1 .i64 .i64 _ _ fs.length rfl rfl rfl rfl (by rw [hz2]; omega) (by unfold maxLen; omega) (by omega) ?_; intro w3 hown3 hgrow3)
  obtain ⟨_, hr⟩ := hown3
  have hg3 : w3.heap[w2.heap.size]? = some (.cells (words (List.replicate fs.length 0)).toArray 49 (0, 0)) := by
    rcases hr with ⟨hr, _⟩ | ⟨g, cap, cur, hv, _, hg, _, _, hcs, htk⟩
    · cases hr
    · cases hv
      have e1 : cur.toList.take (fs.length * 1) = cur.toList := List.take_of_length_le (by simp only [Array.length_toList, hcs]; exact Nat.le_refl _)
      rw [e1] at htk
      have e2 : cur.toList = words (List.replicate fs.length 0) := by
        rw [htk]
        show (madeCells #[Value.int .u64 0] (fs.length * 1)).toList = _
        rw [toList_madeCells_one]
        simp [words]
      rw [hg, ← e2]
  have hres3 : w3.heap[R]? = some (.cells #[.int .i64 0, .slice none 0 0] 87 (0, 0)) := by
    rw [hgrow3.block R hRl (by simp)]; exact hr1
  have hgl := lt_of_heap hg3
  have hRl3 := lt_of_heap hres3
  have hch3 : Chg [] w w3 := hch2.grown hgrow3 (fun k hk => by cases hk)
  have hsz3 := hch3.size
  have mid0 : RdMid w (w3.alloc (.cells #[.int .i64 (t : Int), .slice (some ⟨w2.heap.size, 0, none⟩) fs.length fs.length] 87)) w3.heap.size R w2.heap.size t fs.length 0 fs (List.replicate fs.length 0) :=
    ⟨hch3.alloc _, heap_alloc_new w3 _, (Below.heap_alloc _ _ _ hRl3).trans hres3, (Below.heap_alloc _ _ _ hgl).trans hg3, by simp, by omega, hsz3, fR, hsz2⟩
  have dBR : R ≠ w3.heap.size := by omega
  generalize w3.heap.size = B at mid0 dBR ⊢
  clear hres3 hgl hRl3 hch3 hsz3 hg3 hr hgrow3 hr1 hRl hch2
  generalize w3.alloc (.cells #[.int .i64 (t : Int), .slice (some ⟨w2.heap.size, 0, none⟩) fs.length fs.length] 87) = w4 at mid0 ⊢
  generalize w2.heap.size = g at mid0 hsz2 ⊢
  have MID0 := Lib.hid mid0
  clear mid0
  go_loopw [18] (fun v wr => ∃ k : Nat, k ≤ fs.length ∧ v = .int .i64 k ∧ ∃ ds, RdMid w wr B R g t fs.length k fs ds) (fun v _ => fs.length - (intOf v).toNat)
  case atStart => exact ⟨0, Nat.zero_le _, rfl, _, MID0.out⟩
  case round =>
    clear MID0
    obtain ⟨k, hk, rfl, ds, hm⟩ := hrel
    by_cases hlt : k < fs.length
    · have g1 := cell_at hm.blk (o := 1) (v := .slice (some ⟨g, 0, none⟩) fs.length fs.length) rfl
      have g2 := cell_at hm.row (o := k) (v := .int .u64 (wat ds k)) (by have := words_get (xs := ds) (k := k) (by rw [hm.len]; exact hlt); simpa using this)
      have g3 := free_at hm.row k
      have hget := fun n => hG (wr.drewN n) (hm.chg.drewN n) k hlt
      have hst := Lib.hid (hm.step hlt)
      have hdec : decide ((k : Int) < (fs.length : Int)) = true := decide_eq_true (by omega)
      clear hm hG
      go_wp2
      have hget' : Calls Try.prog 27 #[.pointer (some ⟨p, 0, none⟩), .int .u64 x, .int .i64 k] wr.drew fun e w' => e = .returned (.tuple #[.int .u64 (wat fs k), .int .i64 0]) ∧ ∃ n, w' = wr.drewN (1 + n) := (hget 1).mono fun e w' ⟨he, n, hn⟩ => ⟨he, n, by rw [hn]; simp⟩
      clear hget
      go_region_with (go_at_call 27; refine hget'.mono ?_; rintro e w' ⟨rfl, ⟨n, rfl⟩⟩)
      all_goals
        go_wp2
        go_roundw
        case rel => exact ⟨k + 1, by omega, by go_num, _, hst.out _⟩
        case measure => simp [intOf]; omega
    · obtain rfl : k = fs.length := by omega
      have hdec : decide ((fs.length : Int) < (fs.length : Int)) = false := decide_eq_false (by omega)
      have g1 := cell_at hm.blk (o := 0) (v := .int .i64 (t : Int)) rfl
      have g2 := cell_at hm.blk (o := 1) (v := .slice (some ⟨g, 0, none⟩) fs.length fs.length) rfl
      have g3 := cell_at hm.res (o := 0) (v := .int .i64 0) rfl
      have g4 := cell_at hm.res (o := 1) (v := .slice none 0 0) rfl
      have z1 := free_at hm.res 0
      have z2 := free_at hm.res 1
      have HM := Lib.hid hm
      clear hm hG
      go_wp2
      have hm := HM.out
      have r1 := heap_set (o := 0) hm.res (.int .i64 (t : Int))
      have r2 := heap_set (o := 1) r1 (.slice (some ⟨g, 0, none⟩) fs.length fs.length)
      have q0 := cell_at r2 (o := 0) (v := .int .i64 (t : Int)) rfl
      have q1 := cell_at r2 (o := 1) (v := .slice (some ⟨g, 0, none⟩) fs.length fs.length) rfl
      have hds : ds = fs := wat_ext hm.len (fun j hj => hm.same j hj)
      subst hds
      have dg : g ≠ R := row_ne (w := wr) hm.row hm.res (by decide)
      have hrow : ((wr.setCell ⟨R, 0, none⟩ (.int .i64 (t : Int))).setCell ⟨R, 1, none⟩ (.slice (some ⟨g, 0, none⟩) ds.length ds.length)).ownsRow w.heap.size 49 1 (.slice (some ⟨g, 0, none⟩) ds.length ds.length) ds.length (words ds) := by
        refine ⟨by simp [words], .inr ⟨g, ds.length, (words ds).toArray, rfl, hm.fg, ?_, Nat.le_refl _, by unfold maxLen; omega, by simp [words], ?_⟩⟩
        · rw [heap_set_ne _ dg, heap_set_ne _ dg]; exact hm.row
        · have : (words ds).toArray.toList = words ds := rfl
          rw [this, List.take_of_length_le (by simp [words])]
      refine bodyPost_ret (v := .agg #[.int .i64 (t : Int), .slice (some ⟨g, 0, none⟩) ds.length ds.length]) (by simp [results, Try.results39, go_sem, q0, q1]) rfl ⟨_, rfl, ?_, hrow⟩
      exact (hm.chg.set _ (.inr hm.fR)).set _ (.inr hm.fR)
end

end Go.Proofs.Ytleoedjjepkhgaa
