import Derived.Test.YtleoedjjepkhgaaRfind
/- The reference's New and Alloc. -/
namespace Go.Proofs.Ytleoedjjepkhgaa
open Go.RowKit

theorem info_block : (Try.prog.info? 73).map (fun i => (i.zero, i.size, i.bytes)) = some (some (.agg #[.int .i64 0, .int .i64 0, .slice none 0 0]), 3, 40) := by kernel_rfl

theorem rnew_out (n : Int) (hn : n < 2 ∨ 32768 < n) (w : World) :
    Calls Try.prog 40 #[.int .i64 n] w fun e w' => e = .returned (.pointer none) ∧ w' = w := by
  rcases hn with h | h
  · have c1 : decide (n < 2) = true := decide_eq_true h
    go_enter Try.func40, Try.ntmps40
    go_wp2
    go_ret
    exact ⟨rfl, rfl⟩
  · have c1 : decide (n < 2) = false := decide_eq_false (by omega)
    have c2 : decide (32768 < n) = true := decide_eq_true h
    go_enter Try.func40, Try.ntmps40
    go_wp2
    go_ret
    exact ⟨rfl, rfl⟩

theorem rnew_in (n : Nat) (h1 : 2 ≤ n) (h2 : n ≤ 32768) (w : World) :
    Calls Try.prog 40 #[.int .i64 n] w fun e w' => e = .returned (.pointer (some ⟨w.heap.size, 0, none⟩)) ∧ Chg [] w w' ∧ RM w' w.heap.size (.slice none 0 0) (fun _ => .slice none 0 0) (St.fresh n) := by
  have c1 : decide ((n : Int) < 2) = false := decide_eq_false (by omega)
  have c2 : decide (32768 < (n : Int)) = false := decide_eq_false (by omega)
  go_enter Try.func40, Try.ntmps40
  go_wp2
  go_ret
  refine ⟨rfl, (Chg.refl [] w).alloc _, ⟨heap_alloc_new w _, World.ownsRow_nil _ _ _ _, fun k hk => by simp [St.fresh] at hk, fun i j b hi => by simp [St.fresh] at hi, ⟨h1, h2, by simp [St.fresh], by simp [St.fresh, span]⟩, fun b hb => by simp [St.fresh] at hb⟩⟩

/-- the local block in the middle of Alloc: k fields are laid -/
structure RMid (w wr : World) (B po t k : Nat) (vb : Value) : Prop where
  chg : Chg [] w wr
  blk : wr.heap[B]? = some (.cells #[.int .i64 (po : Int), .int .i64 (t : Int), vb] 73 (0, 0))
  fresh : w.heap.size ≤ B
  row : wr.ownsRow w.heap.size 49 1 vb k (words (List.replicate k 1))

section
variable {w : World} {q : Nat} {lv : Value} {fv : Nat → Value} {S : St}

theorem own_ne {g : Nat} {v : Value} {base : Nat} {e : TypeId} {size n : Nat} {xs : List Value} {o : Array Value} {t : TypeId} {fz : Nat × Nat} (H : w.ownsRow base e size v n xs) (hk : w.heap[g]? = some (.cells o t fz)) (hne : e ≠ t) : v.ownBlock ≠ some g := by
  rcases H.2 with ⟨rfl, _⟩ | ⟨b, cap, cur, rfl, _, hg, _⟩
  · simp [Value.ownBlock]
  · simp only [Value.ownBlock]
    intro he
    have e1 : b = g := by simpa using he
    subst e1
    rw [hg] at hk
    cases hk
    exact hne rfl

theorem own_lt {v : Value} {base : Nat} {e : TypeId} {size n : Nat} {xs : List Value} (H : w.ownsRow base e size v n xs) {k : Nat} (hk : v.ownBlock = some k) : base ≤ k ∧ k < w.heap.size := H.lt k hk

/-- behind the append of one field -/
theorem RMid.step {wr w2 : World} {B po t k : Nat} {vb v' : Value} (H : RMid w wr B po t k vb)
    (hg : (wr.alloc (.cells #[.int .u64 1] 49)).grownBy w2 vb.ownBlock) (hown : w2.ownsRow w.heap.size 49 1 v' (k + 1) (words (List.replicate k 1) ++ [.int .u64 1])) :
    (w2.cell? ⟨B, 2, none⟩ = some vb ∧ w2.frozen? ⟨B, 2, none⟩ = false) ∧ RMid w (w2.setCell ⟨B, 2, none⟩ v') B po t (k + 1) v' := by
  have hlt := lt_of_heap H.blk
  have hne := own_ne H.row H.blk (by decide)
  have q1 : w2.heap[B]? = some (.cells #[.int .i64 (po : Int), .int .i64 (t : Int), vb] 73 (0, 0)) := by
    rw [hg.block B (by simp; omega) (fun e => hne e.symm), Below.heap_alloc _ _ _ hlt]
    exact H.blk
  refine ⟨⟨cell_at q1 rfl, free_at q1 2⟩, ?_, ?_, H.fresh, ?_⟩
  · exact Chg.set ((H.chg.alloc _).grown hg (fun j hj => .inr (own_lt H.row hj).1)) _ (.inr H.fresh)
  · exact heap_set q1 v'
  · have e : words (List.replicate k 1) ++ [.int .u64 1] = words (List.replicate (k + 1) 1) := by
      rw [List.replicate_succ']
      simp [words]
    rw [e] at hown
    exact ownsRow_set hown (own_ne hown q1 (by decide)) _

/-- behind Alloc -/
theorem ralloc_done (H : RM w q lv fv S) {wr w2 : World} {B t m : Nat} {vb v' : Value} (ht : tagOk t) (h3 : m ≤ 4096) (hf : S.top + m + 1 ≤ S.base + S.n)
    (hm : RMid w wr B (S.top + 1) t m vb)
    (hg : (wr.alloc (.cells #[.int .i64 ((S.top + 1 : Nat) : Int), .int .i64 (t : Int), vb] 73)).grownBy w2 lv.ownBlock)
    (hown : w2.ownsRow 0 73 3 v' (S.L.length + 1) (rrow S fv S.L.length ++ [.int .i64 ((S.top + 1 : Nat) : Int), .int .i64 (t : Int), vb]))
    (hloc : v'.ownBlock = lv.ownBlock ∨ v'.ownBlock = some (wr.alloc (.cells #[.int .i64 ((S.top + 1 : Nat) : Int), .int .i64 (t : Int), vb] 73)).heap.size) :
    (w2.cell? ⟨q, 2, none⟩ = some lv ∧ w2.frozen? ⟨q, 2, none⟩ = false ∧ w2.cell? ⟨B, 0, none⟩ = some (.int .i64 ((S.top + 1 : Nat) : Int)) ∧ B ≠ q) ∧
    RM (w2.setCell ⟨q, 2, none⟩ v') q v' (fun k => if k = S.L.length then vb else fv k) (S.alloc t m) ∧
    Chg (rfoot q lv fv S.L.length) w (w2.setCell ⟨q, 2, none⟩ v') ∧ (v'.ownBlock = lv.ownBlock ∨ ∃ k, v'.ownBlock = some k ∧ w.heap.size ≤ k) ∧ (∀ k, vb.ownBlock = some k → w.heap.size ≤ k) := by
  have hq : wr.heap[q]? = _ := hm.chg.get H.a (by simp)
  have n1 := own_ne H.row H.a (by decide)
  have hrow : wr.ownsRow 0 73 3 lv S.L.length (rrow S fv S.L.length) := ownsRow_chg H.row hm.chg (by simp)
  have past : ∀ k o, wr.heap[k]? = some o → lv.ownBlock ≠ some k → w2.heap[k]? = some o := by
    intro k o hk hne
    have hlt := lt_of_heap hk
    rw [hg.block k (by simp; omega) (fun e => hne e.symm), Below.heap_alloc _ _ _ hlt]
    exact hk
  have q1 := past q _ hq n1
  have qlt := lt_of_heap H.a
  have hvq : v'.ownBlock ≠ some q := own_ne hown q1 (by decide)
  have hBq : B ≠ q := by have := hm.fresh; omega
  have hB : w2.heap[B]? = some (.cells #[.int .i64 ((S.top + 1 : Nat) : Int), .int .i64 (t : Int), vb] 73 (0, 0)) := by
    refine past B _ hm.blk ?_
    intro e
    have := (own_lt H.row e).2
    have := hm.fresh
    omega
  refine ⟨⟨cell_at q1 rfl, free_at q1 2, cell_at hB rfl, hBq⟩, ⟨?_, ?_, ?_, ?_, alloc_ok H.ok hf, alloc_blks H.blks ht h3⟩, ?_, ?_, ?_⟩
  · exact heap_set q1 v'
  · rw [alloc_len, rrow_succ]
    refine ownsRow_set ?_ hvq _
    have e1 : rrow (S.alloc t m) (fun k => if k = S.L.length then vb else fv k) S.L.length = rrow S fv S.L.length :=
      rrow_congr fun k hk => by unfold rcells; rw [alloc_pos S t m (by omega), alloc_blk S t m hk]; dsimp only; rw [if_neg (by omega)]
    have e2 : rcells (S.alloc t m) (fun k => if k = S.L.length then vb else fv k) S.L.length = [.int .i64 ((S.top + 1 : Nat) : Int), .int .i64 (t : Int), vb] := by
      unfold rcells; rw [alloc_pos S t m (Nat.le_refl _), alloc_new, pos_len]; simp
    rw [e1, e2]
    exact hown
  · intro k hk
    rw [alloc_len] at hk
    have keep : ∀ v base n xs, wr.ownsRow base 49 1 v n xs → (w2.setCell ⟨q, 2, none⟩ v').ownsRow base 49 1 v n xs := by
      intro v base n xs hv
      refine ownsRow_set ?_ (own_ne (hv.alloc _ |>.kept hg ?_) q1 (by decide)) _
      · refine (hv.alloc _).kept hg ?_
        cases hv.2 with
        | inl h => left; rw [h.1]; rfl
        | inr h =>
          right
          obtain ⟨g, cap, cur, rfl, _, hg2, _⟩ := h
          intro e
          exact own_ne hrow hg2 (by decide) e.symm
      · cases hv.2 with
        | inl h => left; rw [h.1]; rfl
        | inr h =>
          right
          obtain ⟨g, cap, cur, rfl, _, hg2, _⟩ := h
          intro e
          exact own_ne hrow hg2 (by decide) e.symm
    by_cases e : k = S.L.length
    · subst e
      rw [if_pos rfl, alloc_new]
      have := keep _ _ _ _ hm.row
      obtain ⟨r1, r2⟩ := this
      simp only [List.length_replicate]
      refine ⟨r1, ?_⟩
      rcases r2 with r2 | ⟨g, cap, cur, a1, _, a2⟩
      · exact .inl r2
      · exact .inr ⟨g, cap, cur, a1, Nat.zero_le _, a2⟩
    · rw [if_neg e, alloc_blk S t m (by omega)]
      exact keep _ _ _ _ (ownsRow_chg (H.fvs k (by omega)) hm.chg (by simp))
  · intro i j b hi hj h1 h2
    rw [alloc_len] at hi hj
    by_cases e1 : i = S.L.length
    · by_cases e2 : j = S.L.length
      · omega
      · rw [if_pos e1] at h1
        rw [if_neg e2] at h2
        have := (own_lt hm.row h1).1
        have := (own_lt (H.fvs j (by omega)) h2).2
        omega
    · by_cases e2 : j = S.L.length
      · rw [if_neg e1] at h1
        rw [if_pos e2] at h2
        have := (own_lt hm.row h2).1
        have := (own_lt (H.fvs i (by omega)) h1).2
        omega
      · rw [if_neg e1] at h1
        rw [if_neg e2] at h2
        exact H.dist i j b (by omega) (by omega) h1 h2
  · have k1 : Chg (rfoot q lv fv S.L.length) w wr := hm.chg.mono (by simp)
    exact Chg.set ((k1.alloc _).grown hg (fun k hk => .inl (by simp [rfoot, hk]))) _ (.inl (by simp [rfoot]))
  · rcases hloc with e | e
    · exact .inl e
    · refine .inr ⟨_, e, ?_⟩
      have := hm.chg.size
      simp
      omega
  · intro k hk; exact (own_lt hm.row hk).1

set_option maxHeartbeats 4000000 in
set_option maxRecDepth 100000 in
theorem ralloc_walk (H : RM w q lv fv S) (t m : Nat) (ht : tagOk t) (h3 : m ≤ 4096) (b5 : (S.top : Int) + m + 1 ≤ (S.base : Int) + (S.n : Int)) :
    Calls Try.prog 57 #[.pointer (some ⟨q, 0, none⟩), .int .i64 t, .int .i64 m] w fun e w' =>
      e = .returned (.tuple #[.int .u64 (2 * ((S.top : Int) + 1)), .int .i64 0]) ∧ Chg (rfoot q lv fv S.L.length) w w' ∧ ∃ lv' vb, RM w' q lv' (fun k => if k = S.L.length then vb else fv k) (S.alloc t m) ∧
        (lv'.ownBlock = lv.ownBlock ∨ ∃ k, lv'.ownBlock = some k ∧ w.heap.size ≤ k) ∧ (∀ k, vb.ownBlock = some k → w.heap.size ≤ k) := by
  obtain ⟨f1, f2, f3⟩ := H.fields
  have hcnt := H.count
  have hT := rtop_am H
  have hB := fun n => rbase_am (H.drewN n)
  have hbn := H.baseLe
  have hn3 := H.ok.n3
  have ht0 := ht
  have b1 : decide ((t : Int) < 0) = false := decide_eq_false (by omega)
  have b3 : decide ((m : Int) < 0) = false := decide_eq_false (by omega)
  have b4 : decide (4096 < (m : Int)) = false := decide_eq_false (by omega)
  have b6 : decide ((S.base : Int) + (S.n : Int) < (S.top : Int) + 1 + m) = false := decide_eq_false (by omega)
  have h1 : t ≤ 255 := by unfold tagOk at ht; omega
  rcases ht with ht | ht | ht
  case' inl => have c1 : decide (199 < (t : Int)) = false := decide_eq_false (by omega)
  case' inr.inl =>
    have c1 : decide (199 < (t : Int)) = true := decide_eq_true (by omega)
    have c2 : ((t : Int) != 200) = false := by rw [bne_eq_false_iff_eq]; omega
  case' inr.inr =>
    have c1 : decide (199 < (t : Int)) = true := decide_eq_true (by omega)
    have c2 : ((t : Int) != 200) = true := by rw [bne_iff_ne]; omega
    have c3 : ((t : Int) != 202) = false := by rw [bne_eq_false_iff_eq]; omega
  all_goals
    clear ht
    go_enter Try.func57, Try.ntmps57
    go_wp2_with (go_at_call 22; refine hT.mono ?_; rintro e w' ⟨rfl, ⟨n, rfl⟩⟩)
    refine region_quiet_at (by kernel_rfl) (by kernel_rfl) ?_
    repeat go_big_quiet_step ((go_at_call 46; exact Calls.quiet_of (hB _)))
    refine wpQuiet_nil ?_
    intro nr
    clear hT hB f1 f2 f3
    have H1 := H.drewN nr
    have hch := (Chg.refl [] w).drewN nr
    generalize w.drewN nr = w1 at H1 hch ⊢
    obtain ⟨f1, f2, f3⟩ := H1.fields
    have hsz := hch.size
    obtain ⟨i0, hi, hz0, hz1, hz2⟩ := info_parts info_word
    have mid0 := Lib.hid (show RMid w (w1.alloc (.cells #[.int .i64 ((S.top : Int) + 1), .int .i64 (t : Int), .slice none 0 0] 73)) w1.heap.size (S.top + 1) t 0 (.slice none 0 0) from
      ⟨hch.alloc _, heap_alloc_new w1 _, hsz, World.ownsRow_nil _ _ _ _⟩)
    go_wp2
    clear f1 f2 f3
    have hB0 : ∃ B, B = w1.heap.size := ⟨_, rfl⟩
    obtain ⟨B, hB0⟩ := hB0
    rw [← hB0] at mid0 ⊢
    clear hB0
    generalize w1.alloc (.cells #[.int .i64 ((S.top : Int) + 1), .int .i64 (t : Int), .slice none 0 0] 73) = w2 at mid0 ⊢
    clear H1 hch hsz w1
    go_loopw [10] (fun v wr => ∃ k : Nat, k ≤ m ∧ v = .int .i64 k ∧ ∃ vb, RMid w wr B (S.top + 1) t k vb) (fun v _ => m - (intOf v).toNat)
    case atStart => exact ⟨0, Nat.zero_le _, rfl, _, mid0.out⟩
    case round =>
      clear mid0
      obtain ⟨k, hk, rfl, vb, hm⟩ := hrel
      obtain ⟨va, vc, rfl⟩ := ownsRow_slice hm.row
      by_cases hlt : k < m
      · have g1 := cell_at hm.blk (o := 2) (v := .slice va k vc) rfl
        have hdec : decide ((k : Int) < (m : Int)) = true := decide_eq_true (by omega)
        have hown1 := Lib.hid (hm.row.alloc (.cells #[.int .u64 1] 49))
        have hsz : w.heap.size ≤ wr.heap.size := hm.chg.size
        have STEP := fun (w3 : World) (v' : Value) => Lib.hid (hm.step (w2 := w3) (v' := v'))
        clear hm
        go_wp2_with (first | (at_builtin; refine wpList_append_own_at _ rfl _ _ 28 rfl w.heap.size 49 i0 (.int .u64 0) 1 8 Try.underlying28 hi hz0 hz1 hz2 rfl (by decide) _ _ _ rfl hown1.out ⟨wr.heap.size, 0, none⟩ 1 1 [.int .u64 1] rfl rfl (cell_one_new _ _ _) (ints_oneCell .u64 [1]) (by unfold maxLen; omega) (by omega) (by simp; omega) ?_; intro v' w3 hown2 hgrow2 hnil hloc; obtain ⟨⟨q1, q2⟩, q3⟩ := (STEP w3 v').out hgrow2 hown2; have HS := Lib.hid q3; obtain ⟨va', vc', hv'⟩ := ownsRow_slice hown2; clear hown2 hgrow2 hnil hloc q3; subst hv'))
        go_roundw
        case rel => exact ⟨k + 1, by omega, by go_num, _, HS.out⟩
        case measure => simp [intOf]; omega
      · obtain rfl : k = m := by omega
        have hdec : decide ((k : Int) < (k : Int)) = false := decide_eq_false (by omega)
        have hq := hm.chg.get H.a (by simp)
        have hql : q < wr.heap.size := lt_of_heap hq
        have hqn : q ≠ wr.heap.size := by omega
        have g1 := cell_at hq (o := 2) (v := lv) rfl
        have g2 := cell_at hm.blk (o := 0) (v := .int .i64 ((S.top + 1 : Nat) : Int)) rfl
        have g3 := cell_at hm.blk (o := 1) (v := .int .i64 (t : Int)) rfl
        have g4 := cell_at hm.blk (o := 2) (v := .slice va k vc) rfl
        have hm' : RMid w wr.drew B (S.top + 1) t k (.slice va k vc) := ⟨hm.chg.drewN 1, hm.blk, hm.fresh, hm.row⟩
        have hrow : wr.drew.ownsRow 0 73 3 lv S.L.length (rrow S fv S.L.length) := ownsRow_chg H.row hm'.chg (by simp)
        have e0 : ((S.top + 1 : Nat) : Int) = (S.top : Int) + 1 := by omega
        have hown1 := Lib.hid (hrow.alloc (.cells #[.int .i64 ((S.top : Int) + 1), .int .i64 (t : Int), .slice va k vc] 73))
        have hfit : S.top + k + 1 ≤ S.base + S.n := by omega
        have DONE0 := fun (w3 : World) (v' : Value) => ralloc_done (w2 := w3) (v' := v') H ht0 h3 hfit hm'
        rw [e0] at DONE0
        have DONE := fun (w3 : World) (v' : Value) => Lib.hid (DONE0 w3 v')
        have hlvs : ∃ la lc, lv = .slice la S.L.length lc := ownsRow_slice hrow
        obtain ⟨j0, hj, hy0, hy1, hy2⟩ := info_parts info_block
        have hpl : S.top ≤ 65536 := by have := H.ok.fit; unfold St.top; omega
        rw [e0] at g2
        clear hm hm' hrow hq e0 DONE0
        go_wp2
        go_region_law (refine step_append_at rfl (.tmp 63) (.tmp 65) 68 rfl 0 73 j0 _ 3 40 Try.underlying68 hj hy0 hy1 hy2 rfl (by decide) lv S.L.length (rrow S fv S.L.length) (by simp [Act.eval]) hown1.out ⟨wr.heap.size, 0, none⟩ 1 1 [.int .i64 ((S.top : Int) + 1), .int .i64 (t : Int), .slice va k vc] (by simp [Act.eval]) rfl (cells_three _ _ _ _ _) (by simp [Value.oneCell']) (by unfold maxLen; omega) (by omega) (by omega) ?_; intro v' w3 hown2 hgrow2 hloc; obtain ⟨⟨q1, q2, q3, q4⟩, q5⟩ := (DONE w3 v').out hgrow2 hown2 hloc; have HD := Lib.hid q5; obtain ⟨va', vc', hv'⟩ := ownsRow_slice hown2; clear hown2 hgrow2 hloc q5; subst hv')
        all_goals
          go_wp2_with (go_at_call 24; refine (rPtr_any _ (by omega) (by omega) _).mono ?_; rintro e w' ⟨rfl, hw'⟩; obtain rfl := hw'.symm)
          go_ret2
          obtain ⟨r1, r2, r3, r4⟩ := HD.out
          exact ⟨rfl, r2, _, _, r1, r3, r4⟩

/-- Alloc, refused -/
theorem ralloc_bad (H : RM w q lv fv S) (t m : Int) (he : allocErr S t m ≠ 0) :
    Calls Try.prog 57 #[.pointer (some ⟨q, 0, none⟩), .int .i64 t, .int .i64 m] w fun e w' => e = .returned (.tuple #[.int .u64 0, .int .i64 (allocErr S t m)]) ∧ ∃ n, w' = w.drewN n := by
  obtain ⟨f1, f2, f3⟩ := H.fields
  have hn : S.n ≤ 32768 := H.ok.n3
  have hbn := H.baseLe
  have hT := rtop_am H
  have hB := fun n => rbase_am (H.drewN n)
  have htop : S.top ≤ 2 * S.n := by have := H.ok.fit; unfold St.top; omega
  by_cases k1 : (t < 0 ∨ 199 < t) ∧ t ≠ 200 ∧ t ≠ 202
  · have e1 : allocErr S t m = 1 := if_pos k1
    rw [e1]
    clear e1 he f1 f2 f3
    have c2 : (t != 200) = true := by rw [bne_iff_ne]; exact k1.2.1
    have c3 : (t != 202) = true := by rw [bne_iff_ne]; exact k1.2.2
    by_cases k2 : t < 0
    · have c1 : decide (t < 0) = true := decide_eq_true k2
      clear k1
      go_enter Try.func57, Try.ntmps57
      go_wp2
      go_ret2
      exact ⟨rfl, 0, rfl⟩
    · have c1 : decide (t < 0) = false := decide_eq_false k2
      have c4 : decide (199 < t) = true := decide_eq_true (by omega)
      clear k1
      go_enter Try.func57, Try.ntmps57
      go_wp2
      go_ret2
      exact ⟨rfl, 0, rfl⟩
  · have htag : 0 ≤ t ∧ (t ≤ 199 ∨ t = 200 ∨ t = 202) := by omega
    have c0 : decide (t < 0) = false := decide_eq_false (by omega)
    by_cases k3 : m < 0 ∨ 4096 < m
    · have e1 : allocErr S t m = 2 := by unfold allocErr; rw [if_neg k1, if_pos k3]
      rw [e1]
      clear e1 he f1 f2 f3 k1
      obtain ⟨_, ht'⟩ := htag
      have c5 : (decide (m < 0) = true) ∨ (decide (m < 0) = false ∧ decide (4096 < m) = true) := by
        rcases Int.lt_or_le m 0 with h | h
        · exact .inl (decide_eq_true h)
        · exact .inr ⟨decide_eq_false (by omega), decide_eq_true (by omega)⟩
      clear k3
      rcases ht' with ht' | ht' | ht'
      case' inl => have c1 : decide (199 < t) = false := decide_eq_false (by omega)
      case' inr.inl =>
        have c1 : decide (199 < t) = true := decide_eq_true (by omega)
        have c2 : (t != 200) = false := by rw [bne_eq_false_iff_eq]; omega
      case' inr.inr =>
        have c1 : decide (199 < t) = true := decide_eq_true (by omega)
        have c2 : (t != 200) = true := by rw [bne_iff_ne]; omega
        have c3 : (t != 202) = false := by rw [bne_eq_false_iff_eq]; omega
      all_goals
        clear ht'
        rcases c5 with c5 | ⟨c5, c6⟩
        all_goals
          go_enter Try.func57, Try.ntmps57
          go_wp2
          go_ret2
          exact ⟨rfl, 0, rfl⟩
    · have k4 : (S.base : Int) + (S.n : Int) < (S.top : Int) + m + 1 := by
        apply Classical.byContradiction
        intro hk
        exact he (by unfold allocErr; rw [if_neg k1, if_neg k3, if_neg hk])
      have e1 : allocErr S t m = 10 := by unfold allocErr; rw [if_neg k1, if_neg k3, if_pos k4]
      rw [e1]
      clear e1 he k1
      have c5 : decide (m < 0) = false := decide_eq_false (by omega)
      have c6 : decide (4096 < m) = false := decide_eq_false (by omega)
      have c7 : decide ((S.base : Int) + (S.n : Int) < (S.top : Int) + 1 + m) = true := decide_eq_true (by omega)
      obtain ⟨_, ht'⟩ := htag
      rcases ht' with ht' | ht' | ht'
      case' inl => have c1 : decide (199 < t) = false := decide_eq_false (by omega)
      case' inr.inl =>
        have c1 : decide (199 < t) = true := decide_eq_true (by omega)
        have c2 : (t != 200) = false := by rw [bne_eq_false_iff_eq]; omega
      case' inr.inr =>
        have c1 : decide (199 < t) = true := decide_eq_true (by omega)
        have c2 : (t != 200) = true := by rw [bne_iff_ne]; omega
        have c3 : (t != 202) = false := by rw [bne_eq_false_iff_eq]; omega
      all_goals
        clear ht'
        go_enter Try.func57, Try.ntmps57
        go_wp2_with (go_at_call 22; refine hT.mono ?_; rintro e w' ⟨rfl, ⟨n, rfl⟩⟩)
        refine region_quiet_at (by kernel_rfl) (by kernel_rfl) ?_
        repeat go_big_quiet_step ((go_at_call 46; exact Calls.quiet_of (hB _)))
        refine wpQuiet_nil ?_
        intro nr
        go_wp2
        go_ret2
        exact ⟨rfl, _, rfl⟩

/-- Alloc, whatever is asked: the footprint stays among old and new blocks -/
theorem ralloc_am (H : RM w q lv fv S) (t m : Int) :
    Calls Try.prog 57 #[.pointer (some ⟨q, 0, none⟩), .int .i64 t, .int .i64 m] w fun e w' =>
      e = .returned (.tuple #[.int .u64 (layWord S t m), .int .i64 (allocErr S t m)]) ∧ Chg (rfoot q lv fv S.L.length) w w' ∧ ∃ lv' fv', RM w' q lv' fv' (S.lay t m) ∧ (∀ k ∈ rfoot q lv' fv' (S.lay t m).L.length, k ∈ rfoot q lv fv S.L.length ∨ w.heap.size ≤ k) := by
  by_cases he : allocErr S t m = 0
  · obtain ⟨h1, h2, h3, h4, h5⟩ := allocErr_zero he
    unfold layWord St.lay
    rw [if_pos he, if_pos he, he]
    obtain ⟨a, rfl⟩ := Int.eq_ofNat_of_zero_le h1
    obtain ⟨b, rfl⟩ := Int.eq_ofNat_of_zero_le h3
    refine (ralloc_walk H a b h2 (by omega) h5).mono fun e w' ⟨r1, r2, lv', vb, r3, r4, r5⟩ => ⟨r1, r2, lv', _, r3, ?_⟩
    intro k hk
    rw [Int.toNat_natCast, Int.toNat_natCast, alloc_len] at hk
    unfold rfoot at hk ⊢
    rw [List.range_succ, List.flatMap_append] at hk
    simp only [List.mem_cons, List.mem_append, List.mem_flatMap, List.mem_range, Option.mem_toList, List.flatMap_cons, List.flatMap_nil, List.append_nil, if_true] at hk ⊢
    rcases hk with hk | hk | ⟨j, hj, hk⟩ | hk
    · exact .inl (.inl hk)
    · rcases r4 with r4 | ⟨b, r4, hb⟩
      · rw [r4] at hk; exact .inl (.inr (.inl hk))
      · rw [r4] at hk; simp at hk; subst hk; exact .inr hb
    · rw [if_neg (by omega)] at hk; exact .inl (.inr (.inr ⟨j, hj, hk⟩))
    · exact .inr (r5 k hk)
  · unfold layWord St.lay
    rw [if_neg he, if_neg he]
    exact (ralloc_bad H t m he).mono fun e w' ⟨h1, n, h2⟩ => ⟨h1, h2 ▸ (Chg.refl _ _).drewN n, lv, fv, h2 ▸ H.drewN n, fun k hk => .inl hk⟩
end

end Go.Proofs.Ytleoedjjepkhgaa
