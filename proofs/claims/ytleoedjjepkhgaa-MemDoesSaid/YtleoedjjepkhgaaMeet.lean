import Derived.Test.YtleoedjjepkhgaaNew
import Derived.Test.YtleoedjjepkhgaaMaps
/- The closure of copier.Reach: a word is met. -/
namespace Go.Proofs.Ytleoedjjepkhgaa
open Go.RowKit

theorem AM.chg {F : List Nat} {W w : World} {p h c : Nat} {sv : Value} {cs : List Int} {S : St} (H : AM W p h c sv cs S) (hc : Chg F W w) (hF : ∀ k ∈ foot p h c sv, k ∉ F) : AM w p h c sv cs S :=
  ⟨hc.get H.a (hF p (by simp [foot])), hc.get H.hv (hF h (by simp [foot])), hc.get H.cc (hF c (by simp [foot])), H.len,
    ownsRow_chg H.starts hc (fun k hk => hF k (by simp [foot, hk])), H.cells, H.rng, H.ok, H.blks⟩

def ptrs (S : St) (out : List Nat) : List Int := out.map fun i => 2 * ((S.pos i : Nat) : Int)

open Classical in
/-- the map of what was seen -/
noncomputable def seenAs (S : St) (out : List Nat) (x : Int) : Option Value := if x ∈ ptrs S out then some (.bool true) else none

/-- what the closure holds -/
structure RS (W w : World) (p : Nat) (S : St) (bA bS bC bO ms : Nat) (ov : Value) (out : List Nat) : Prop where
  chg : Chg [] W w
  kA : w.heap[bA]? = some (.cells #[.pointer (some ⟨p, 0, none⟩)] 44 (0, 0))
  kS : w.heap[bS]? = some (.cells #[.map (some ms)] 85 (0, 0))
  kC : w.heap[bC]? = some (.cells #[.int .i64 ((cellsOf S out : Nat) : Int)] 3 (0, 0))
  kO : w.heap[bO]? = some (.cells #[ov] 28 (0, 0))
  seen : MapIs w ms (seenAs S out)
  row : w.ownsRow W.heap.size 49 1 ov out.length (words (ptrs S out))
  good : Good S out
  fS : W.heap.size ≤ bS
  fC : W.heap.size ≤ bC
  fO : W.heap.size ≤ bO
  fM : W.heap.size ≤ ms

theorem RS.drewN {W w : World} {p : Nat} {S : St} {bA bS bC bO ms : Nat} {ov : Value} {out : List Nat} (H : RS W w p S bA bS bC bO ms ov out) (n : Nat) : RS W (w.drewN n) p S bA bS bC bO ms ov out :=
  ⟨H.chg.drewN n, H.kA, H.kS, H.kC, H.kO, H.seen, H.row, H.good, H.fS, H.fC, H.fO, H.fM⟩

theorem zero_bool (w : World) : (zeroValue 4).run Try.prog w = .ok (.bool false) w := by kernel_rfl

theorem mem_ptrs {S : St} {out : List Nat} (hg : Good S out) {i : Nat} (hi : i < S.L.length) : 2 * ((S.pos i : Nat) : Int) ∈ ptrs S out ↔ i ∈ out := by
  unfold ptrs
  rw [List.mem_map]
  constructor
  · rintro ⟨j, hj, e⟩
    have := pos_inj (hg.lt j hj) hi (by omega)
    exact this ▸ hj
  · intro h; exact ⟨i, h, rfl⟩

theorem map_ne_cells {w : World} {b g : Nat} {f : Int → Option Value} (h : MapIs w b f) {cur : Array Value} {t : TypeId} {fz : Nat × Nat} (hg : w.heap[g]? = some (.cells cur t fz)) : g ≠ b := by
  obtain ⟨es, clock, h1, _⟩ := h
  intro e; subst e
  rw [hg] at h1
  cases h1

theorem find_ptr {S : St} (hS : S.ok) {i : Nat} (hi : i < S.L.length) : S.find (2 * ((S.pos i : Nat) : Int)) = some (i, 0) := by
  have h1 := pos_le hS hi
  have h2 := addr_ptr (a := S.pos i) (by omega)
  exact find_eq hi h2

theorem cellsOf_push (S : St) (out : List Nat) (i : Nat) : cellsOf S (out ++ [i]) = cellsOf S out + (1 + (S.blk i).fs.length) := by
  unfold cellsOf; rw [List.map_append, span_append]; simp [span]

section
variable {W w : World} {p h c : Nat} {sv : Value} {cs : List Int} {S : St} {bA bS bC bO ms : Nat} {ov : Value} {out : List Nat}

theorem own_ne' {w : World} {g : Nat} {v : Value} {base : Nat} {e : TypeId} {size n : Nat} {xs : List Value} {o : Array Value} {t : TypeId} {fz : Nat × Nat} (H : w.ownsRow base e size v n xs) (hk : w.heap[g]? = some (.cells o t fz)) (hne : e ≠ t) : v.ownBlock ≠ some g := by
  rcases H.2 with ⟨rfl, _⟩ | ⟨b, cap, cur, rfl, _, hg, _⟩
  · simp [Value.ownBlock]
  · simp only [Value.ownBlock]
    intro he
    have e1 : b = g := by simpa using he
    subst e1
    rw [hg] at hk
    cases hk
    exact hne rfl

/-- behind the append: what the closure holds -/
theorem meet_done {w2 w3 : World} {v' : Value} {i m n : Nat} (H : RS W w p S bA bS bC bO ms ov out) (hm2 : MapIs w2 ms (fun y => if y = 2 * ((S.pos i : Nat) : Int) then some (.bool true) else seenAs S out y)) (hg2 : (w.drewN n).grownBy w2 (some ms)) (hch2 : Chg [] W w2)
    (hrow2 : w2.ownsRow W.heap.size 49 1 ov out.length (words (ptrs S out))) (_hi : i < S.L.length) (_hno : i ∉ out) (hgd : Good S (out ++ [i]))
    (hg3 : (((w2.drewN m).setCell ⟨bC, 0, none⟩ (.int .i64 (((cellsOf S out : Nat) : Int) + ((((S.blk i).fs.length : Nat) : Int) + 1)))).alloc (.cells #[.int .u64 (2 * ((S.pos i : Nat) : Int))] 49)).grownBy w3 ov.ownBlock)
    (hown : w3.ownsRow W.heap.size 49 1 v' (out.length + 1) (words (ptrs S out) ++ [.int .u64 (2 * ((S.pos i : Nat) : Int))])) :
    w3.cell? ⟨bO, 0, none⟩ = some ov ∧ w3.frozen? ⟨bO, 0, none⟩ = false ∧ RS W (w3.setCell ⟨bO, 0, none⟩ v') p S bA bS bC bO ms v' (out ++ [i]) ∧ Chg (bC :: bO :: ms :: ov.ownBlock.toList) w (w3.setCell ⟨bO, 0, none⟩ v') := by
  have keep : ∀ k o, w.heap[k]? = some o → k ≠ ms → w2.heap[k]? = some o := fun k o hk hne => by
    rw [hg2.block k (lt_of_heap hk) (fun e => hne (by cases e; rfl))]; exact hk
  have jA := keep bA _ H.kA (map_ne_cells H.seen H.kA)
  have jC := keep bC _ H.kC (map_ne_cells H.seen H.kC)
  have jO := keep bO _ H.kO (map_ne_cells H.seen H.kO)
  have jS := keep bS _ H.kS (map_ne_cells H.seen H.kS)
  have dCO : bC ≠ bO := row_ne H.kC H.kO (by decide)
  have dAC : bA ≠ bC := row_ne H.kA H.kC (by decide)
  have dSC : bS ≠ bC := row_ne H.kS H.kC (by decide)
  have dAO : bA ≠ bO := row_ne H.kA H.kO (by decide)
  have dSO : bS ≠ bO := row_ne H.kS H.kO (by decide)
  have past : ∀ k o, ((w2.drewN m).setCell ⟨bC, 0, none⟩ (.int .i64 (((cellsOf S out : Nat) : Int) + ((((S.blk i).fs.length : Nat) : Int) + 1)))).heap[k]? = some o → ov.ownBlock ≠ some k → w3.heap[k]? = some o := by
    intro k o hk hne
    have hlt := lt_of_heap hk
    rw [hg3.block k (by simp at hlt ⊢; omega) (fun e => hne e.symm), Below.heap_alloc _ _ _ hlt]
    exact hk
  have pA := past bA _ ((heap_set_ne _ dAC).trans jA) (own_ne' hrow2 jA (by decide))
  have pS := past bS _ ((heap_set_ne _ dSC).trans jS) (own_ne' hrow2 jS (by decide))
  have pO := past bO _ ((heap_set_ne _ (Ne.symm dCO)).trans jO) (own_ne' hrow2 jO (by decide))
  have pC := past bC _ (heap_set (w := w2.drewN m) jC _) (own_ne' hrow2 jC (by decide))
  have hmO : bO ≠ ms := map_ne_cells H.seen H.kO
  have hmC : bC ≠ ms := map_ne_cells H.seen H.kC
  have chg3 : Chg [] W w3 := by
    have k1 := (Chg.set (b := bC) (o := 0) (hch2.drewN m) (.int .i64 (((cellsOf S out : Nat) : Int) + ((((S.blk i).fs.length : Nat) : Int) + 1))) (.inr H.fC)).alloc (.cells #[.int .u64 (2 * ((S.pos i : Nat) : Int))] 49)
    exact k1.grown hg3 (fun k hk => .inr (H.row.lt k hk).1)
  have hm3 : MapIs w3 ms (fun y => if y = 2 * ((S.pos i : Nat) : Int) then some (.bool true) else seenAs S out y) := by
    refine hm2.kept ?_
    have hml := hm2.lt
    have hne : ov.ownBlock ≠ some ms := by
      intro e
      rcases hrow2.2 with ⟨e1, _⟩ | ⟨g, cap, cur, e1, _, e3, _⟩
      · rw [e1] at e; simp [Value.ownBlock] at e
      · rw [e1] at e
        have : g = ms := by simpa [Value.ownBlock] using e
        exact map_ne_cells hm2 e3 this
    rw [hg3.block ms (by simp; omega) (fun e => hne e.symm), Below.heap_alloc _ _ _ (by rw [size_set]; exact hml), heap_set_ne _ (Ne.symm hmC)]
    rfl
  have chgF : Chg (bC :: bO :: ms :: ov.ownBlock.toList) w (w3.setCell ⟨bO, 0, none⟩ v') := by
    have k0 : Chg (bC :: bO :: ms :: ov.ownBlock.toList) w w2 := ((Chg.refl _ w).drewN n).grown hg2 (fun k hk => .inl (by cases hk; simp))
    have k1 := (Chg.set (b := bC) (o := 0) (k0.drewN m) (.int .i64 (((cellsOf S out : Nat) : Int) + ((((S.blk i).fs.length : Nat) : Int) + 1))) (.inl (by simp))).alloc (.cells #[.int .u64 (2 * ((S.pos i : Nat) : Int))] 49)
    exact (k1.grown hg3 (fun k hk => .inl (by rw [hk]; simp))).set _ (.inl (by simp))
  refine ⟨cell_at pO rfl, free_at pO 0, ⟨?_, ?_, ?_, ?_, ?_, ?_, ?_, hgd, H.fS, H.fC, H.fO, H.fM⟩, chgF⟩
  · exact chg3.set _ (.inr H.fO)
  · rw [heap_set_ne _ dAO]; exact pA
  · rw [heap_set_ne _ dSO]; exact pS
  · rw [heap_set_ne _ dCO, pC, cellsOf_push]
    have e : ((cellsOf S out + (1 + (S.blk i).fs.length) : Nat) : Int) = ((cellsOf S out : Nat) : Int) + ((((S.blk i).fs.length : Nat) : Int) + 1) := by omega
    rw [e]
    rfl
  · exact heap_set pO v'
  · have e : seenAs S (out ++ [i]) = (fun y => if y = 2 * ((S.pos i : Nat) : Int) then some (.bool true) else seenAs S out y) := by
      funext y
      unfold seenAs ptrs
      by_cases hy : y = 2 * ((S.pos i : Nat) : Int)
      · rw [if_pos hy, if_pos (by rw [hy]; simp)]
      · rw [if_neg hy]
        by_cases hm : y ∈ List.map (fun i => 2 * ((S.pos i : Nat) : Int)) out
        · rw [if_pos hm, if_pos (by simp only [List.map_append, List.mem_append]; exact .inl hm)]
        · rw [if_neg hm, if_neg (by simp only [List.map_append, List.mem_append, not_or]; exact ⟨hm, by simpa using hy⟩)]
    rw [e]
    exact hm3.kept (heap_set_ne _ (Ne.symm hmO))
  · have e : words (ptrs S (out ++ [i])) = words (ptrs S out) ++ [.int .u64 (2 * ((S.pos i : Nat) : Int))] := by simp [ptrs, words]
    rw [e, List.length_append, List.length_singleton]
    exact ownsRow_set hown (own_ne' hown pO (by decide)) _

set_option maxHeartbeats 2000000 in
set_option maxRecDepth 100000 in
theorem meet_am (HA : AM W p h c sv cs S) (H : RS W w p S bA bS bC bO ms ov out) (x : Int) (h0 : 0 ≤ x) (h1 : x < 18446744073709551616) :
    Calls Try.prog 38 #[.int .u64 x, .pointer (some ⟨bA, 0, none⟩), .pointer (some ⟨bS, 0, none⟩), .pointer (some ⟨bC, 0, none⟩), .pointer (some ⟨bO, 0, none⟩)] w fun e w' =>
      e = .returned (.tuple #[]) ∧ ∃ ov', RS W w' p S bA bS bC bO ms ov' (meet S out x) ∧ Chg (bC :: bO :: ms :: ov.ownBlock.toList) w w' ∧ (ov'.ownBlock = ov.ownBlock ∨ ∃ b, ov'.ownBlock = some b ∧ w.heap.size ≤ b) := by
  have HA1 := HA.chg H.chg (by simp)
  have hL := leads_am HA1 x h0 h1
  have kA := cell_at H.kA (o := 0) rfl
  have kS := cell_at H.kS (o := 0) rfl
  have kC := cell_at H.kC (o := 0) rfl
  have kO := cell_at H.kO (o := 0) rfl
  unfold St.lds at hL
  unfold meet
  cases hx : S.find x with
  | none =>
    rw [hx] at hL
    dsimp only at hL ⊢
    go_enter Try.func38, Try.ntmps38
    go_wp2_with (go_at_call 36; refine hL.mono ?_; rintro e w' ⟨rfl, ⟨n, rfl⟩⟩)
    go_end0
    exact ⟨rfl, _, H.drewN _, (Chg.refl _ w).drewN _, .inl rfl⟩
  | some q =>
    rw [hx] at hL
    have hlt := find_lt hx
    have hb := HA1.bounds hlt
    dsimp only at hL ⊢
    have hne : ((2 * ((S.pos q.1 : Nat) : Int)) != 0) = true := by rw [bne_iff_ne]; omega
    by_cases hm : q.1 ∈ out
    · rw [if_pos hm]
      have hlook : ∀ n, (Instr.lookup 85 (.map (some ms)) (.int .u64 (2 * ((S.pos q.1 : Nat) : Int))) false).run Try.prog (w.drewN n) = .ok (.bool true) (w.drewN n) := by
        intro n
        have := run_lookup_word (P := Try.prog) (w := w.drewN n) H.seen Try.underlying85 Try.underlying49 (zero_bool _) (2 * ((S.pos q.1 : Nat) : Int))
        rw [this]
        unfold seenAs
        rw [if_pos ((mem_ptrs H.good hlt).2 hm)]
        rfl
      go_enter Try.func38, Try.ntmps38
      go_wp2_with (go_at_call 36; refine hL.mono ?_; rintro e w' ⟨rfl, ⟨n, rfl⟩⟩)
      go_end0
      exact ⟨rfl, _, H.drewN _, (Chg.refl _ w).drewN _, .inl rfl⟩
    · rw [if_neg hm]
      have hlook : ∀ n, (Instr.lookup 85 (.map (some ms)) (.int .u64 (2 * ((S.pos q.1 : Nat) : Int))) false).run Try.prog (w.drewN n) = .ok (.bool false) (w.drewN n) := by
        intro n
        have := run_lookup_word (P := Try.prog) (w := w.drewN n) H.seen Try.underlying85 Try.underlying49 (zero_bool _) (2 * ((S.pos q.1 : Nat) : Int))
        rw [this]
        unfold seenAs
        rw [if_neg (fun h => hm ((mem_ptrs H.good hlt).1 h))]
        rfl
      go_enter Try.func38, Try.ntmps38
      go_wp2_with (first | (go_at_call 36; refine hL.mono ?_; rintro e w' ⟨rfl, ⟨n, rfl⟩⟩) | (at_mapUpdate; refine wpList_update_word _ rfl _ _ _ rfl Try.underlying85 Try.underlying49 ms (seenAs S out) rfl H.seen _ rfl _ rfl ?_; intro w2 hm2 hg2; dsimp only [Act.put]))
      have hch2 : Chg [] W w2 := (H.chg.drewN n).grown hg2 (fun k hk => by cases hk; exact .inr H.fM)
      have keep : ∀ k o, w.heap[k]? = some o → k ≠ ms → w2.heap[k]? = some o := fun k o hk hne => by
        rw [hg2.block k (lt_of_heap hk) (fun e => hne (by cases e; rfl))]; exact hk
      have jA := keep bA _ H.kA (map_ne_cells H.seen H.kA)
      have jC := keep bC _ H.kC (map_ne_cells H.seen H.kC)
      have jO := keep bO _ H.kO (map_ne_cells H.seen H.kO)
      have jS := keep bS _ H.kS (map_ne_cells H.seen H.kS)
      have mA := cell_at jA (o := 0) rfl
      have mC := cell_at jC (o := 0) rfl
      have mO := cell_at jO (o := 0) rfl
      have zC := free_at jC 0
      have zO := free_at jO 0
      have HA2 := HA.chg hch2 (by simp)
      have hsz := fun m => size_am (HA2.drewN m) (2 * ((S.pos q.1 : Nat) : Int)) (by omega) (by omega)
      unfold St.sizeOf at hsz
      rw [find_ptr HA.ok hlt] at hsz
      dsimp only at hsz
      have hgd := good_meet H.good x
      unfold meet at hgd
      rw [hx] at hgd
      dsimp only at hgd
      rw [if_neg hm] at hgd
      have hcl : cellsOf S out ≤ 32768 := by have := good_span H.good; have := HA.ok.fit; have := HA.ok.n3; omega
      have dCO : bC ≠ bO := row_ne H.kC H.kO (by decide)
      have hrow2 : w2.ownsRow W.heap.size 49 1 ov out.length (words (ptrs S out)) := by
        have h3 := H.row
        rcases h3.2 with e | ⟨g, cap, cur, e1, e2, e3, e4⟩
        · exact ⟨h3.1, .inl e⟩
        · exact ⟨h3.1, .inr ⟨g, cap, cur, e1, e2, keep g _ e3 (map_ne_cells H.seen e3), e4⟩⟩
      obtain ⟨oa, oc, hov⟩ := ownsRow_slice hrow2
      have hlen : out.length ≤ 32768 := by have h5 := hgd.length_le; have h6 := HA1.count; rw [List.length_append] at h5; omega
      obtain ⟨i0, hi, hz0, hz1, hz2⟩ := info_parts info_word
      have HH := Lib.hid H
      have HM2 := Lib.hid hm2
      have HG2 := Lib.hid hg2
      have HC2 := Lib.hid hch2
      clear kA kS kC kO hlook hL HA1 H hm2 hg2 hch2 keep
      refine region_quiet_tail 6 (by kernel_rfl) (by kernel_rfl) ?_
      simp only [List.take_succ_cons, List.take_zero, List.drop_succ_cons, List.drop_zero]
      repeat go_big_quiet_step ((go_at_call 26; exact Calls.quiet_of (hsz _)))
      refine wpQuiet_nil ?_
      intro m
      have hown1 := Lib.hid ((ownsRow_set (w := w2.drewN m) (b := bC) (o := 0) hrow2 (own_ne' hrow2 jC (by decide)) (.int .i64 (((cellsOf S out : Nat) : Int) + ((((S.blk q.1).fs.length : Nat) : Int) + 1)))).alloc (.cells #[.int .u64 (2 * ((S.pos q.1 : Nat) : Int))] 49))
      have DONE := fun (w3 : World) (v' : Value) => Lib.hid (meet_done (w3 := w3) (v' := v') (m := m) HH.out HM2.out HG2.out HC2.out hrow2 hlt hm hgd)
      have hszw : W.heap.size ≤ w2.heap.size := HC2.out.size
      have hszw2 : w.heap.size ≤ w2.heap.size := HG2.out.size
      subst hov
      clear hrow2 jA jC jS jO HA2 hsz
      go_wp2_with (at_builtin; refine wpList_append_own_at _ rfl _ _ 28 rfl W.heap.size 49 i0 (.int .u64 0) 1 8 Try.underlying28 hi hz0 hz1 hz2 rfl (by decide) _ _ _ rfl hown1.out ⟨w2.heap.size, 0, none⟩ 1 1 [.int .u64 (2 * ((S.pos q.1 : Nat) : Int))] rfl rfl (by simpa using cell_one_new ((w2.drewN m).setCell ⟨bC, 0, none⟩ (.int .i64 (((cellsOf S out : Nat) : Int) + ((((S.blk q.1).fs.length : Nat) : Int) + 1)))) (.int .u64 (2 * ((S.pos q.1 : Nat) : Int))) 49) (ints_oneCell .u64 [2 * ((S.pos q.1 : Nat) : Int)]) (by unfold maxLen; omega) (by omega) (by simp; omega) ?_; intro v' w3 hown3 hgrow3 hnil hloc; obtain ⟨q1, q2, q3, q4⟩ := (DONE w3 v').out hgrow3 hown3; have HD := Lib.hid q3; have HQ := Lib.hid q4; have HLOC := Lib.hid hloc; obtain ⟨va, vc, hv'⟩ := ownsRow_slice hown3; clear hown3 hgrow3 hnil hloc q3 q4; subst hv')
      go_end0
      exact ⟨rfl, _, HD.out, HQ.out, HLOC.out.elim .inl fun h => .inr ⟨_, h, Nat.le_trans hszw2 (by simp)⟩⟩
end

end Go.Proofs.Ytleoedjjepkhgaa
