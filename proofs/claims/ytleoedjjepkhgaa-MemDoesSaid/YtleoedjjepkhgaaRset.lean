import Derived.Test.YtleoedjjepkhgaaRalloc
/- The reference's Set. -/
namespace Go.Proofs.Ytleoedjjepkhgaa
open Go.RowKit

/-- a store into an owned row -/
theorem ownsRow_store {w : World} {base : Nat} {e : TypeId} {size : Nat} {v : Value} {n : Nat} {xs : List Value} (H : w.ownsRow base e size v n xs) {g : Nat} (hg : v.ownBlock = some g) {j : Nat} (_hj : j < xs.length) (u : Value) :
    (w.setCell ⟨g, j, none⟩ u).ownsRow base e size v n (xs.set j u) := by
  obtain ⟨h1, h2⟩ := H
  rcases h2 with ⟨rfl, _⟩ | ⟨b, cap, cur, rfl, hb, hh, hnc, hm, hs, ht⟩
  · simp [Value.ownBlock] at hg
  · have e1 : b = g := by simpa [Value.ownBlock] using hg
    subst e1
    refine ⟨by simpa using h1, .inr ⟨b, cap, cur.setIfInBounds j u, rfl, hb, heap_set hh u, hnc, hm, by simpa using hs, ?_⟩⟩
    rw [Array.toList_setIfInBounds, List.take_set, ht]

theorem ownsRow_shape {w : World} {base : Nat} {e : TypeId} {size : Nat} {v : Value} {n : Nat} {xs : List Value} (H : w.ownsRow base e size v n xs) (hn : 0 < n) :
    ∃ g cap, v = .slice (some ⟨g, 0, none⟩) n cap ∧ base ≤ g ∧ g < w.heap.size ∧ n ≤ cap ∧ (∀ j u, xs[j]? = some u → w.cell? ⟨g, j, none⟩ = some u) ∧ (∀ j, w.frozen? ⟨g, j, none⟩ = false) := by
  obtain ⟨h1, h2⟩ := H
  rcases h2 with ⟨_, h2⟩ | ⟨b, cap, cur, rfl, hb, hh, hnc, hm, hs, ht⟩
  · omega
  · refine ⟨b, cap, rfl, hb, lt_of_heap hh, hnc, fun j u hj => ?_, fun j => free_at hh j⟩
    rw [← ht, List.getElem?_take] at hj
    split at hj
    · exact cell_at hh (by simpa using hj)
    · cases hj

theorem words_set' (l : List Int) (j : Nat) (x : Int) : (words l).set j (.int .u64 x) = words (l.set j x) := by simp [words, List.map_set]

def upd (f : Nat → Value) (k : Nat) (v : Value) (i : Nat) : Value := if i = k then v else f i

theorem rrow_set (S : St) (fv : Nat → Value) {n k : Nat} (hk : k < n) (v : Value) : (rrow S fv n).set (k * 3 + 2) v = rrow S (upd fv k v) n := by
  apply List.ext_getElem?
  intro i
  rw [List.getElem?_set]
  by_cases hi : i < n * 3
  · obtain ⟨a, b, rfl, hb⟩ : ∃ a b, i = a * 3 + b ∧ b < 3 := ⟨i / 3, i % 3, by omega, by omega⟩
    rw [rrow_get S fv (k := a) (by omega) hb, rrow_get S (upd fv k v) (k := a) (by omega) hb, rrow_length]
    unfold rcells upd
    by_cases e : k * 3 + 2 = a * 3 + b
    · have : a = k := by omega
      subst this
      have : b = 2 := by omega
      subst this
      rw [if_pos rfl, if_pos (by omega)]
      simp
    · rw [if_neg e]
      by_cases e2 : a = k
      · subst e2
        have : b = 0 ∨ b = 1 := by omega
        rcases this with rfl | rfl <;> simp
      · rw [if_neg e2]
  · have h1 : (rrow S fv n)[i]? = none := List.getElem?_eq_none (by rw [rrow_length]; omega)
    have h2 : (rrow S (upd fv k v) n)[i]? = none := List.getElem?_eq_none (by rw [rrow_length]; omega)
    rw [h1, h2, if_neg (by omega)]

section
variable {w : World} {q : Nat} {lv : Value} {fv : Nat → Value} {S : St}

/-- behind Set: a row of its own, x in it at j, laid into block k -/
theorem rset_done (H : RM w q lv fv S) {w1 : World} {k j : Nat} {x : Int} {v' : Value} {g : Nat} (hk : k < S.L.length) (hj : j < (S.blk k).fs.length) (hx : Wd x) (hg : lv.ownBlock = some g)
    (hch : Chg [] w w1) (hown : w1.ownsRow w.heap.size 49 1 v' (S.blk k).fs.length (words ((S.blk k).fs.set j x))) :
    RM (w1.setCell ⟨g, k * 3 + 2, none⟩ v') q lv (upd fv k v') (S.setF k j x) := by
  have hgl := (own_lt H.row hg).2
  obtain ⟨cur, hgc⟩ : ∃ cur, w1.heap[g]? = some (.cells cur 73 (0, 0)) := by
    rcases H.row.2 with ⟨h1, _⟩ | ⟨b, cap, cur, h1, _, hh, _⟩
    · rw [h1] at hg; simp [Value.ownBlock] at hg
    · rw [h1] at hg
      have e1 : b = g := by simpa [Value.ownBlock] using hg
      subst e1
      exact ⟨cur, hch.get hh (by simp)⟩
  have hqg : q ≠ g := by
    intro e
    exact own_ne H.row H.a (by decide) (by rw [hg, e])
  have keep : ∀ v base n xs, w1.ownsRow base 49 1 v n xs → (w1.setCell ⟨g, k * 3 + 2, none⟩ v').ownsRow base 49 1 v n xs := fun v base n xs hv => ownsRow_set hv (own_ne hv hgc (by decide)) _
  refine ⟨?_, ?_, ?_, ?_, setF_ok H.ok k j x, setF_blks H.blks k j hx hk⟩
  · rw [heap_set_ne _ hqg]; exact hch.get H.a (by simp)
  · rw [setF_len]
    have h1 : w1.ownsRow 0 73 3 lv S.L.length (rrow S fv S.L.length) := ownsRow_chg H.row hch (by simp)
    have h2 := ownsRow_store h1 hg (j := k * 3 + 2) (by rw [rrow_length]; omega) v'
    rw [rrow_set S fv hk] at h2
    have e : rrow (S.setF k j x) (upd fv k v') S.L.length = rrow S (upd fv k v') S.L.length := rrow_congr fun i hi => by
      unfold rcells
      rw [setF_pos, setF_blk _ _ _ _ _ hk]
      by_cases e : i = k
      · subst e; rw [if_pos rfl]
      · rw [if_neg e]
    rw [e]
    exact h2
  · intro i hi
    rw [setF_len] at hi
    rw [setF_blk _ _ _ _ _ hk]
    unfold upd
    by_cases e : i = k
    · subst e
      rw [if_pos rfl, if_pos rfl]
      obtain ⟨r1, r2⟩ := keep _ _ _ _ hown
      simp only [List.length_set]
      refine ⟨r1, ?_⟩
      rcases r2 with r2 | ⟨b, cap, cur, a1, _, a2⟩
      · exact .inl r2
      · exact .inr ⟨b, cap, cur, a1, Nat.zero_le _, a2⟩
    · rw [if_neg e, if_neg e]
      exact keep _ _ _ _ (ownsRow_chg (H.fvs i hi) hch (by simp))
  · intro a b c ha hb h1 h2
    rw [setF_len] at ha hb
    unfold upd at h1 h2
    by_cases e1 : a = k
    · by_cases e2 : b = k
      · omega
      · rw [if_pos e1] at h1
        rw [if_neg e2] at h2
        have := (own_lt hown h1).1
        have := (own_lt (H.fvs b hb) h2).2
        omega
    · by_cases e2 : b = k
      · rw [if_neg e1] at h1
        rw [if_pos e2] at h2
        have := (own_lt hown h2).1
        have := (own_lt (H.fvs a ha) h1).2
        omega
      · rw [if_neg e1] at h1
        rw [if_neg e2] at h2
        exact H.dist a b c ha hb h1 h2

set_option maxHeartbeats 2000000 in
set_option maxRecDepth 100000 in
theorem rset_am (H : RM w q lv fv S) (x i v : Int) (h0 : 0 ≤ x) (h1 : x < 18446744073709551616) (hv : Wd v) :
    Calls Try.prog 44 #[.pointer (some ⟨q, 0, none⟩), .int .u64 x, .int .i64 i, .int .u64 v] w fun e w' =>
      e = .returned (.int .i64 (S.set x i v).2) ∧ Chg (rfoot q lv fv S.L.length) w w' ∧ ∃ lv' fv', RM w' q lv' fv' (S.set x i v).1 ∧ (∀ k ∈ rfoot q lv' fv' (S.set x i v).1.L.length, k ∈ rfoot q lv fv S.L.length ∨ w.heap.size ≤ k) := by
  have hf := rfind_am H x h0 h1
  obtain ⟨f1, f2, f3⟩ := H.fields
  have hcnt := H.count
  unfold St.rfnd at hf
  unfold St.set
  clear f1 f2
  cases hx : S.find x with
  | none =>
    rw [hx] at hf
    clear f3
    go_enter Try.func44, Try.ntmps44
    go_wp2_with (go_at_call 60; refine hf.mono ?_; rintro e w' ⟨rfl, ⟨n, rfl⟩⟩)
    go_ret
    exact ⟨rfl, (Chg.refl _ _).drewN _, lv, fv, H.drewN _, fun k hk => .inl hk⟩
  | some p =>
    rw [hx] at hf
    have hlt := find_lt hx
    dsimp only at hf ⊢
    rcases H.rows with ⟨_, hL⟩ | ⟨g, cap, hlv, hcap, hg⟩
    · omega
    obtain ⟨_, _, c3⟩ := hg p.1 hlt
    obtain ⟨fa, fc, hfv, hfr⟩ := H.fieldRow hlt
    have hbo := H.blks _ (List.mem_of_getElem? (blk_get hlt))
    have hsz := hbo.size
    rw [hfv] at c3
    rw [hlv] at f3
    clear hg
    by_cases k1 : i < 0
    · rw [if_pos (.inl k1)]
      have q1 : decide (i < 0) = true := decide_eq_true k1
      clear hfv hbo hfr
      go_enter Try.func44, Try.ntmps44
      go_wp2_with (go_at_call 60; refine hf.mono ?_; rintro e w' ⟨rfl, ⟨n, rfl⟩⟩)
      go_ret
      exact ⟨rfl, (Chg.refl _ _).drewN _, lv, fv, H.drewN _, fun k hk => .inl hk⟩
    · have q1 : decide (i < 0) = false := decide_eq_false k1
      by_cases k2 : (((S.blk p.1).fs.length : Nat) : Int) ≤ i
      · rw [if_pos (.inr k2)]
        clear hfv hbo hfr
        go_enter Try.func44, Try.ntmps44
        go_wp2_with (go_at_call 60; refine hf.mono ?_; rintro e w' ⟨rfl, ⟨n, rfl⟩⟩)
        go_ret
        exact ⟨rfl, (Chg.refl _ _).drewN _, lv, fv, H.drewN _, fun k hk => .inl hk⟩
      · rw [if_neg (by omega)]
        obtain ⟨j, rfl⟩ := Int.eq_ofNat_of_zero_le (show 0 ≤ i by omega)
        rw [Int.toNat_natCast]
        have hj : j < (S.blk p.1).fs.length := by omega
        rcases hfr with ⟨_, h⟩ | ⟨fg, rfl, hcells⟩
        · omega
        have q2 : decide ((((S.blk p.1).fs.length : Nat) : Int) ≤ (j : Int)) = false := decide_eq_false (by omega)
        obtain ⟨i0, hi, hz0, hz1, hz2⟩ := info_parts info_word
        have hfgl : fg < w.heap.size := World.block_lt_of_cell? w _ (hcells j hj)
        have hql := lt_of_heap H.a
        have hgl : g < w.heap.size := (own_lt H.row (by rw [hlv]; rfl)).2
        have DONE := fun (w1 : World) (v' : Value) => Lib.hid (rset_done (w1 := w1) (v' := v') (g := g) H hlt hj hv (by rw [hlv]; rfl))
        have HH := Lib.hid H
        have HF := Lib.hid hfv
        have HC := Lib.hid hcells
        have HLV := Lib.hid hlv
        have HX := Lib.hid hx
        clear hfv hcells hlv hx hbo H
        go_enter Try.func44, Try.ntmps44
        go_wp2_with fail
        refine hf.mono ?_
        rintro e w' ⟨rfl, ⟨n, rfl⟩⟩
        have hch := (Chg.refl [] w).drewN n
        have k3 : (w.drewN n).cell? ⟨q, 2, none⟩ = some (.slice (some ⟨g, 0, none⟩) S.L.length cap) := f3
        have k4 : (w.drewN n).cell? ⟨g, p.1 * 3 + 2, none⟩ = some (.slice (some ⟨fg, 0, none⟩) (S.blk p.1).fs.length fc) := c3
        have k5 : ∀ j, j < (S.blk p.1).fs.length → (w.drewN n).cell? ⟨fg, j, none⟩ = some (.int .u64 (wat (S.blk p.1).fs j)) := HC.out
        have k6 : (w.drewN n).heap.size = w.heap.size := rfl
        generalize w.drewN n = w1 at hch k3 k4 k5 k6 ⊢
        have hnews := Lib.hid (show ∀ j u, (words (S.blk p.1).fs)[j]? = some u → (w1.alloc (.cells #[] 49)).cell? ((⟨fg, 0, none⟩ : Addr).add j) = some u by
          intro j u hu
          have hadd : (⟨fg, 0, none⟩ : Addr).add j = ⟨fg, j, none⟩ := by unfold Addr.add; split <;> simp_all
          have hjl : j < (S.blk p.1).fs.length := by have := (List.getElem?_eq_some_iff.1 hu).1; simpa [words] using this
          rw [hadd, World.cell?_of_block (w := w1) (Below.heap_alloc _ _ _ (by simp only; omega)), k5 j hjl]
          rw [words_get hjl] at hu
          exact hu)
        have hone := Lib.hid (show ∀ u ∈ words (S.blk p.1).fs, u.oneCell' = true from ints_oneCell .u64 _)
        have hmade := Lib.hid (World.ownsRow_made (base := w.heap.size) (e := 49) (size := 1) w1 #[] 0 (by omega) (by unfold maxLen; omega) (by simp))
        have hwl : (words (S.blk p.1).fs).length = (S.blk p.1).fs.length * 1 := by simp [words]
        have HWL := Lib.hid hwl
        have hz : 0 < (S.blk p.1).fs.length := by omega
        -- what the append leaves
        have AFTER : ∀ v' w2, w2.ownsRow w.heap.size 49 1 v' (0 + (S.blk p.1).fs.length) ([] ++ words (S.blk p.1).fs) → (w1.alloc (.cells #[] 49)).grownBy w2 (some w1.heap.size) →
            ∃ g' c', v' = .slice (some ⟨g', 0, none⟩) (S.blk p.1).fs.length c' ∧ (S.blk p.1).fs.length ≤ c' ∧ w2.cell? ⟨g', j, none⟩ = some (.int .u64 (wat (S.blk p.1).fs j)) ∧ w2.frozen? ⟨g', j, none⟩ = false ∧
              w2.cell? ⟨q, 2, none⟩ = some (.slice (some ⟨g, 0, none⟩) S.L.length cap) ∧ w2.cell? ⟨g, p.1 * 3 + 2, none⟩ = some (.slice (some ⟨fg, 0, none⟩) (S.blk p.1).fs.length fc) ∧ w2.frozen? ⟨g, p.1 * 3 + 2, none⟩ = false ∧ q ≠ g' ∧ g ≠ g' ∧
              Hid (RM ((w2.setCell ⟨g', j, none⟩ (.int .u64 v)).setCell ⟨g, p.1 * 3 + 2, none⟩ (.slice (some ⟨g', 0, none⟩) (S.blk p.1).fs.length c')) q lv (upd fv p.1 (.slice (some ⟨g', 0, none⟩) (S.blk p.1).fs.length c')) (S.setF p.1 j v) ∧
                Chg (rfoot q lv fv S.L.length) w ((w2.setCell ⟨g', j, none⟩ (.int .u64 v)).setCell ⟨g, p.1 * 3 + 2, none⟩ (.slice (some ⟨g', 0, none⟩) (S.blk p.1).fs.length c')) ∧ w.heap.size ≤ g') := by
          intro v' w2 hown hgrow
          rw [Nat.zero_add, List.nil_append] at hown
          obtain ⟨g', c', rfl, hb, hgs, hcc, hcl, hfz⟩ := ownsRow_shape hown hz
          have hch2 : Chg [] w w2 := (hch.alloc _).grown hgrow (fun k hk => .inr (by simp at hk; omega))
          have hHrow := HH.out.row
          have hgb : ∃ cur, w.heap[g]? = some (.cells cur 73 (0, 0)) := by
            rcases hHrow.2 with ⟨e1, _⟩ | ⟨b, cap', cur, e1, _, hh, _⟩
            · rw [HLV.out] at e1; cases e1
            · rw [HLV.out] at e1; cases e1; exact ⟨cur, hh⟩
          obtain ⟨cur, hgb⟩ := hgb
          have blkOf : ∀ k, k < w.heap.size → w2.heap[k]? = w.heap[k]? := fun k hk => hch2.block k hk (by simp)
          have hst := ownsRow_store hown (g := g') rfl (j := j) (by simp [words]; exact hj) (.int .u64 v)
          rw [words_set'] at hst
          have hch3 : Chg [] w (w2.setCell ⟨g', j, none⟩ (.int .u64 v)) := hch2.set _ (.inr hb)
          have hrm := (DONE _ _).out hch3 hst
          refine ⟨g', c', rfl, hcc, hcl j _ (words_get hj), hfz j, ?_, ?_, free_at ((blkOf g hgl).trans hgb) _, by omega, by omega, ⟨hrm, ?_, hb⟩⟩
          · rw [World.cell?_of_block (w := w) (blkOf q hql)]; exact f3
          · rw [World.cell?_of_block (w := w) (blkOf g hgl)]; exact c3
          · refine Chg.set (hch3.mono (by simp)) _ (.inl ?_)
            simp [rfoot, HLV.out, Value.ownBlock]
        have HA := fun (v' : Value) (w2 : World) => Lib.hid (AFTER v' w2)
        have K6 := Lib.hid k6
        have k7 : w.heap.size ≤ w1.heap.size := by omega
        have k8 : q < w1.heap.size := by omega
        have k9 : g < w1.heap.size := by omega
        clear AFTER k5 DONE HC k6 hwl
        go_wp2_with (at_builtin; refine wpList_append_own_at _ rfl _ _ 28 rfl w.heap.size 49 i0 (.int .u64 0) 1 8 Try.underlying28 hi hz0 hz1 hz2 rfl (by decide) _ 0 [] rfl hmade.out ⟨fg, 0, none⟩ (S.blk p.1).fs.length fc (words (S.blk p.1).fs) rfl HWL.out hnews.out hone.out (by unfold maxLen; omega) (by omega) (by simp; omega) ?_; intro v' w2 hown2 hgrow2 hnil hloc; obtain ⟨g', c', hv', r1, r2, r3, r4, r5, r6, r7, r8, r9⟩ := (HA v' w2).out hown2 hgrow2; clear hown2 hgrow2 hnil hloc; subst hv')
        go_ret
        obtain ⟨s1, s2, s3⟩ := r9.out
        refine ⟨rfl, s2, _, _, s1, ?_⟩
        intro k hk
        rw [setF_len] at hk
        unfold rfoot at hk ⊢
        simp only [List.mem_cons, List.mem_append, List.mem_flatMap, List.mem_range, Option.mem_toList] at hk ⊢
        rcases hk with hk | hk | ⟨i, hi, hk⟩
        · exact .inl (.inl hk)
        · exact .inl (.inr (.inl hk))
        · unfold upd at hk
          by_cases e : i = p.1
          · rw [if_pos e] at hk
            have : g' = k := by simpa [Value.ownBlock] using hk
            exact .inr (by omega)
          · rw [if_neg e] at hk
            exact .inl (.inr (.inr ⟨i, hi, hk⟩))
end

end Go.Proofs.Ytleoedjjepkhgaa
