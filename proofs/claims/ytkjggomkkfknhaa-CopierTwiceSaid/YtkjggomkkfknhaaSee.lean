import Derived.Test.YtkjggomkkfknhaaReach
import Derived.Deep.LoopGhost
/- graph's closure: a word is met. -/
namespace Go.Proofs.Ytkjggomkkfknhaa
open Go.RowKit

def ndV (n : Nd) : Value := .agg #[.int .i64 n.place, .int .i64 (n.dist : Int), .int .u64 n.w]

/-- what the closure holds -/
structure GS (W w : World) (p : Nat) (S : St) (bA bM : Nat) (mv : Value) (out : List Nat) : Prop where
  chg : Chg [] W w
  kA : w.heap[bA]? = some (.cells #[.pointer (some ⟨p, 0, none⟩)] 25 (0, 0))
  kM : w.heap[bM]? = some (.cells #[mv] 23 (0, 0))
  row : w.ownsRow W.heap.size 52 1 mv out.length (words (ptrs S out))
  good : Good S out
  fM : W.heap.size ≤ bM

theorem GS.after {W w w' : World} {p : Nat} {S : St} {bA bM : Nat} {mv : Value} {out : List Nat} (H : GS W w p S bA bM mv out) (h : Chg [] w w') : GS W w' p S bA bM mv out :=
  ⟨H.chg.trans h, h.get H.kA (by simp), h.get H.kM (by simp), ownsRow_chg H.row h (by simp), H.good, H.fM⟩

theorem GS.drewN {W w : World} {p : Nat} {S : St} {bA bM : Nat} {mv : Value} {out : List Nat} (H : GS W w p S bA bM mv out) (n : Nat) : GS W (w.drewN n) p S bA bM mv out := H.after ((Chg.refl [] w).drewN n)

theorem ptrs_get {S : St} {out : List Nat} {k i : Nat} (h : out[k]? = some i) : (words (ptrs S out))[k]? = some (.int .u64 (2 * ((S.pos i : Nat) : Int))) := by
  simp [words, ptrs, h]

section
variable {W w : World} {p h c : Nat} {sv : Value} {cs : List Int} {S : St} {bA bM : Nat} {mv : Value} {out : List Nat}

theorem see_done {w1 w2 : World} {i : Nat} {v' : Value} (H : GS W w p S bA bM mv out) (hc : Chg [] w w1) (hgd : Good S (out ++ [i]))
    (hg : (w1.alloc (.cells #[.int .u64 (2 * ((S.pos i : Nat) : Int))] 52)).grownBy w2 mv.ownBlock)
    (hown : w2.ownsRow W.heap.size 52 1 v' (out.length + 1) (words (ptrs S out) ++ [.int .u64 (2 * ((S.pos i : Nat) : Int))])) :
    w2.cell? ⟨bM, 0, none⟩ = some mv ∧ w2.frozen? ⟨bM, 0, none⟩ = false ∧ GS W (w2.setCell ⟨bM, 0, none⟩ v') p S bA bM v' (out ++ [i]) ∧ Chg (bM :: mv.ownBlock.toList) w (w2.setCell ⟨bM, 0, none⟩ v') ∧
      (w2.setCell ⟨bM, 0, none⟩ v').heap[bM]? = some (.cells #[v'] 23 (0, 0)) ∧ ∀ (k : Nat) (cs : Array Value), w1.heap[k]? = some (.cells cs 88 (0, 0)) → (w2.setCell ⟨bM, 0, none⟩ v').heap[k]? = some (.cells cs 88 (0, 0)) := by
  have hA1 := hc.get H.kA (by simp)
  have hM1 := hc.get H.kM (by simp)
  have hr1 := ownsRow_chg H.row hc (by simp)
  have past : ∀ k o, w1.heap[k]? = some o → mv.ownBlock ≠ some k → w2.heap[k]? = some o := by
    intro k o hk hne
    have hlt := lt_of_heap hk
    rw [hg.block k (by simp only [size_alloc]; omega) (fun e => hne e.symm), Below.heap_alloc _ _ _ hlt]
    exact hk
  have pA := past bA _ hA1 (own_ne' hr1 hA1 (by decide))
  have pM := past bM _ hM1 (own_ne' hr1 hM1 (by decide))
  have dAM : bA ≠ bM := row_ne H.kA H.kM (by decide)
  have ch2 : Chg [] W w2 := ((H.chg.trans hc).alloc _).grown hg (fun k hk => .inr (H.row.lt k hk).1)
  refine ⟨cell_at pM rfl, free_at pM 0, ⟨ch2.set _ (.inr H.fM), ?_, heap_set pM v', ?_, hgd, H.fM⟩, ?_, heap_set pM v', fun k cs hk => ?_⟩
  · rw [heap_set_ne _ dAM]; exact pA
  · have e : words (ptrs S (out ++ [i])) = words (ptrs S out) ++ [.int .u64 (2 * ((S.pos i : Nat) : Int))] := by simp [ptrs, words]
    rw [e, List.length_append, List.length_singleton]
    exact ownsRow_set hown (own_ne' hown pM (by decide)) _
  · have k0 : Chg (bM :: mv.ownBlock.toList) w w1 := hc.mono (by simp)
    exact ((k0.alloc _).grown hg (fun k hk => .inl (by rw [hk]; simp))).set _ (.inl (by simp))
  · rw [heap_set_ne _ (row_ne hk hM1 (by decide))]
    exact past k _ hk (own_ne' hr1 hk (by decide))

theorem GS.put (H : GS W w p S bA bM mv out) {R o : Nat} {cs : Array Value} (hR : w.heap[R]? = some (.cells cs 88 (0, 0))) (hW : W.heap.size ≤ R) (u : Value) : GS W (w.setCell ⟨R, o, none⟩ u) p S bA bM mv out :=
  ⟨H.chg.set _ (.inr hW), by rw [heap_set_ne _ (row_ne H.kA hR (by decide))]; exact H.kA, by rw [heap_set_ne _ (row_ne H.kM hR (by decide))]; exact H.kM, ownsRow_set H.row (own_ne' H.row hR (by decide)) _, H.good, H.fM⟩

set_option maxHeartbeats 2000000 in
set_option maxRecDepth 100000 in
theorem see_am (HA : AM W p h c sv cs S) (H : GS W w p S bA bM mv out) (x : Int) (h0 : 0 ≤ x) (h1 : x < 18446744073709551616) :
    Calls Try.prog 47 #[.int .u64 x, .pointer (some ⟨bA, 0, none⟩), .pointer (some ⟨bM, 0, none⟩)] w fun e w' =>
      e = .returned (ndV (node S (meet S out x) x)) ∧ ∃ mv', GS W w' p S bA bM mv' (meet S out x) ∧ Chg (bM :: mv.ownBlock.toList) w w' ∧ (mv'.ownBlock = mv.ownBlock ∨ ∃ b, mv'.ownBlock = some b ∧ w.heap.size ≤ b) := by
  have hnew : (w.alloc (.cells #[.int .i64 0, .int .i64 0, .int .u64 0] 88)).heap[w.heap.size]? = some (.cells #[.int .i64 0, .int .i64 0, .int .u64 0] 88 (0, 0)) := heap_alloc_new w _
  have hc0 : Chg [] w (w.alloc (.cells #[.int .i64 0, .int .i64 0, .int .u64 0] 88)) := (Chg.refl [] w).alloc _
  have HL := leads_am (HA.chg (H.chg.trans hc0) (by simp)) x h0 h1
  have HG1 := H.after hc0
  have kA := cell_at HG1.kA (o := 0) rfl
  have HH := Lib.hid H
  obtain ⟨R, hR⟩ : ∃ R, R = w.heap.size := ⟨_, rfl⟩
  have fR : w.heap.size ≤ R := by omega
  rw [← hR] at hnew
  unfold St.lds at HL
  unfold meet node
  cases hx : S.find x with
  | none =>
    rw [hx] at HL
    dsimp only at HL ⊢
    go_enter Try.func47, Try.ntmps47
    go_wp2_with fail
    refine HL.mono ?_
    rintro e w' ⟨rfl, n, rfl⟩
    rw [← hR]
    have hc1 := hc0.drewN n
    have hn1 : ((w.alloc (.cells #[.int .i64 0, .int .i64 0, .int .u64 0] 88)).drewN n).heap[R]? = some (.cells #[.int .i64 0, .int .i64 0, .int .u64 0] 88 (0, 0)) := hnew
    clear HL kA HG1 H hnew hc0 hR
    generalize (w.alloc (.cells #[.int .i64 0, .int .i64 0, .int .u64 0] 88)).drewN n = w1 at hn1 hc1 ⊢
    have z0 := cell_at hn1 (o := 0) rfl
    have z1 := cell_at hn1 (o := 1) rfl
    have z2 := cell_at hn1 (o := 2) rfl
    have y0 := free_at hn1 0
    have y1 := free_at hn1 1
    have y2 := free_at hn1 2
    have HC1 := Lib.hid hc1
    have HN1 := Lib.hid hn1
    clear hc1 hn1
    go_wp2
    have r1 := heap_set (o := 0) HN1.out (.int .i64 (-1))
    have r2 := heap_set (o := 1) r1 (.int .i64 0)
    have r3 := heap_set (o := 2) r2 (.int .u64 x)
    have q0 := cell_at r3 (o := 0) (v := .int .i64 (-1)) rfl
    have q1 := cell_at r3 (o := 1) (v := .int .i64 0) rfl
    have q2 := cell_at r3 (o := 2) (v := .int .u64 x) rfl
    have hch := ((HC1.out.set (b := R) (o := 0) (.int .i64 (-1)) (.inr fR)).set (b := R) (o := 1) (.int .i64 0) (.inr fR)).set (b := R) (o := 2) (.int .u64 x) (.inr fR)
    exact bodyPost_ret (v := .agg #[.int .i64 (-1), .int .i64 0, .int .u64 x]) (by simp [results, Try.results47, go_sem, q0, q1, q2]) rfl ⟨rfl, mv, HH.out.after hch, hch.mono (by simp), .inl rfl⟩
  | some q =>
    rw [hx] at HL
    have hlt := find_lt hx
    have hb := HA.bounds hlt
    have hlen := H.good.length_le
    have hcnt := HA.count
    dsimp only at HL ⊢
    generalize hO : (if q.1 ∈ out then out else out ++ [q.1]) = out'
    have HO := Lib.hid hO
    clear hO
    have hne : decide (2 * ((S.pos q.1 : Nat) : Int) = 0) = false := decide_eq_false (by omega)
    have kM := cell_at HG1.kM (o := 0) rfl
    obtain ⟨ma, mc, rfl⟩ := ownsRow_slice H.row
    have HX := Lib.hid hx
    clear hx
    go_enter Try.func47, Try.ntmps47
    go_wp2_with fail
    refine HL.mono ?_
    rintro e w' ⟨rfl, n, rfl⟩
    rw [← hR]
    have hc1 := hc0.drewN n
    have hn1 : ((w.alloc (.cells #[.int .i64 0, .int .i64 0, .int .u64 0] 88)).drewN n).heap[R]? = some (.cells #[.int .i64 0, .int .i64 0, .int .u64 0] 88 (0, 0)) := hnew
    have hg1 := HG1.drewN n
    clear HL kA HG1 H hnew hc0 hR kM
    generalize (w.alloc (.cells #[.int .i64 0, .int .i64 0, .int .u64 0] 88)).drewN n = w1 at hn1 hc1 hg1 ⊢
    have kM := cell_at hg1.kM (o := 0) rfl
    have z0 := cell_at hn1 (o := 0) rfl
    have z1 := cell_at hn1 (o := 1) rfl
    have z2 := cell_at hn1 (o := 2) rfl
    have y0 := free_at hn1 0
    have y1 := free_at hn1 1
    have y2 := free_at hn1 2
    have HC1 := Lib.hid hc1
    have HN1 := Lib.hid hn1
    have HG1 := Lib.hid hg1
    clear hc1 hn1 hg1
    go_wp2
    have hptr : ∀ k, k < out.length → ∃ g i, ma = some ⟨g, 0, none⟩ ∧ out[k]? = some i ∧ i < S.L.length ∧ w1.cell? ⟨g, k, none⟩ = some (.int .u64 (2 * ((S.pos i : Nat) : Int))) := by
      intro k hk
      obtain ⟨i, hi⟩ : ∃ i, out[k]? = some i := ⟨_, List.getElem?_eq_getElem hk⟩
      have hil : i < S.L.length := HH.out.good.lt i (List.mem_of_getElem? hi)
      rcases HG1.out.row.2 with ⟨h1, h2⟩ | ⟨g, cap, cur, h1, _, h3, _, _, h4, h5⟩
      · simp only [Value.slice.injEq] at h1; omega
      · simp only [Value.slice.injEq] at h1
        refine ⟨g, i, h1.1, hi, hil, cell_at h3 ?_⟩
        have h6 := ptrs_get (S := S) hi
        rw [← h5, List.getElem?_take] at h6
        simpa [hk] using h6
    have HP := Lib.hid hptr
    clear hptr
    generalize (2 * ((S.pos q.1 : Nat) : Int) == 0) = b15
    by_cases hm : q.1 ∈ out
    · obtain rfl : out' = out := by rw [← HO.out, if_pos hm]
      obtain ⟨hil, hig⟩ := idx_get hm
      have HIG := Lib.hid hig
      clear hig
      go_loopg [20] out'.length (fun gh v wr => ∃ k : Nat, gh = out'.length - k ∧ k ≤ out'.idxOf q.1 ∧ v = .int .i64 k ∧ w1 = wr)
      case atStart => exact ⟨0, rfl, Nat.zero_le _, rfl, rfl⟩
      case round =>
        obtain ⟨k, hgk, hk, rfl, rfl⟩ := hrel
        have hdec : decide ((k : Int) < (out'.length : Int)) = true := decide_eq_true (by omega)
        obtain ⟨g, i, rfl, hi, hi2, hc⟩ := HP.out k (by omega)
        have HI := Lib.hid hi
        clear hi
        by_cases hlt2 : k < out'.idxOf q.1
        · have hne2 : ((2 * ((S.pos i : Nat) : Int)) == (2 * ((S.pos q.1 : Nat) : Int))) = false := by
            refine beq_eq_false_iff_ne.2 (fun e => ?_)
            have e2 : i = q.1 := pos_inj hi2 hlt (by omega)
            have h3 := HI.out
            rw [e2] at h3
            obtain ⟨hk3, h3⟩ := List.getElem?_eq_some_iff.1 h3
            have h4 : out'[out'.idxOf q.1]'hil = q.1 := HIG.out
            have := (List.getElem_inj (h₀ := hk3) (h₁ := hil) HH.out.good.nodup).1 (h3.trans h4.symm)
            omega
          go_wp2
          go_roundg (out'.length - (k + 1))
          case measure => omega
          case rel => exact ⟨k + 1, rfl, by omega, by go_num, rfl⟩
        · obtain rfl : k = out'.idxOf q.1 := by omega
          have hiq : i = q.1 := by
            have h3 := HI.out
            obtain ⟨hk3, h3⟩ := List.getElem?_eq_some_iff.1 h3
            exact h3.symm.trans HIG.out
          subst hiq
          have hne2 : ((2 * ((S.pos q.1 : Nat) : Int)) == (2 * ((S.pos q.1 : Nat) : Int))) = true := beq_self_eq_true _
          generalize hid2 : out'.idxOf q.1 = ix at *
          have HID2 := Lib.hid hid2
          clear hid2
          go_wp2
          have r1 := heap_set (o := 0) HN1.out (.int .i64 (ix : Int))
          have r2 := heap_set (o := 1) r1 (.int .i64 (q.2 : Int))
          have r3 := heap_set (o := 2) r2 (.int .u64 0)
          have q0 := cell_at r3 (o := 0) (v := .int .i64 (ix : Int)) rfl
          have q1 := cell_at r3 (o := 1) (v := .int .i64 (q.2 : Int)) rfl
          have q2 := cell_at r3 (o := 2) (v := .int .u64 0) rfl
          have hch := ((HC1.out.set (b := R) (o := 0) (.int .i64 (ix : Int)) (.inr fR)).set (b := R) (o := 1) (.int .i64 (q.2 : Int)) (.inr fR)).set (b := R) (o := 2) (.int .u64 0) (.inr fR)
          refine bodyPost_ret (v := .agg #[.int .i64 (ix : Int), .int .i64 (q.2 : Int), .int .u64 0]) (by simp [results, Try.results47, go_sem, q0, q1, q2]) rfl ⟨by unfold ndV; rw [HID2.out], _, HH.out.after hch, hch.mono (by simp), .inl rfl⟩
    · obtain rfl : out' = out ++ [q.1] := by rw [← HO.out, if_neg hm]
      have hgd : Good S (out ++ [q.1]) := by
        have := good_meet HH.out.good x
        unfold meet at this
        rw [HX.out] at this
        dsimp only at this
        rwa [if_neg hm] at this
      have hix : (out ++ [q.1]).idxOf q.1 = out.length := by
        rw [List.idxOf_append, if_neg hm]; simp
      have HGD := Lib.hid hgd
      have HIX := Lib.hid hix
      have HM := Lib.hid hm
      clear hgd hix hm
      go_loopg [20] out.length (fun gh v wr => ∃ k : Nat, gh = out.length - k ∧ k ≤ out.length ∧ v = .int .i64 k ∧ w1 = wr)
      case atStart => exact ⟨0, rfl, Nat.zero_le _, rfl, rfl⟩
      case round =>
        obtain ⟨k, hgk, hk, rfl, rfl⟩ := hrel
        by_cases hlt2 : k < out.length
        · have hdec : decide ((k : Int) < (out.length : Int)) = true := decide_eq_true (by omega)
          obtain ⟨g, i, rfl, hi, hi2, hc⟩ := HP.out k (by omega)
          have hne2 : ((2 * ((S.pos i : Nat) : Int)) == (2 * ((S.pos q.1 : Nat) : Int))) = false := by
            refine beq_eq_false_iff_ne.2 (fun e => ?_)
            have e2 : i = q.1 := pos_inj hi2 hlt (by omega)
            rw [e2] at hi
            exact HM.out (List.mem_of_getElem? hi)
          clear hi
          go_wp2
          go_roundg (out.length - (k + 1))
          case measure => omega
          case rel => exact ⟨k + 1, rfl, by omega, by go_num, rfl⟩
        · obtain rfl : k = out.length := by omega
          have hdec : decide ((out.length : Int) < (out.length : Int)) = false := decide_eq_false (by omega)
          obtain ⟨i0, hi, hz0, hz1, hz2⟩ := info_parts info_word
          have hown1 := Lib.hid (HG1.out.row.alloc (.cells #[.int .u64 (2 * ((S.pos q.1 : Nat) : Int))] 52))
          have DONE := fun (w3 : World) (v' : Value) => Lib.hid (see_done (w1 := w1) (w2 := w3) (v' := v') HH.out HC1.out HGD.out)
          have hsz := HC1.out.size
          have hszW := HH.out.chg.size
          have HRl := lt_of_heap HN1.out
          have HMl := lt_of_heap HG1.out.kM
          go_wp2_with (at_builtin; refine wpList_append_own_at _ rfl _ _ 23 rfl W.heap.size 52 i0 (.int .u64 0) 1 8 Try.underlying23 hi hz0 hz1 hz2 rfl (by decide) _ _ _ rfl hown1.out ⟨w1.heap.size, 0, none⟩ 1 1 [.int .u64 (2 * ((S.pos q.1 : Nat) : Int))] rfl rfl (cell_one_new _ _ _) (ints_oneCell .u64 [2 * ((S.pos q.1 : Nat) : Int)]) (by unfold maxLen; omega) (by omega) (by simp; omega) ?_; intro v' w3 hown3 hgrow3 hnil hloc; obtain ⟨q1, q2, q3, q4, q5, q6⟩ := (DONE w3 v').out hgrow3 hown3; have hR3 := q6 R _ HN1.out; have p0 := cell_at hR3 (o := 0) (v := .int .i64 0) rfl; have p1 := cell_at hR3 (o := 1) (v := .int .i64 0) rfl; have p2 := cell_at hR3 (o := 2) (v := .int .u64 0) rfl; have p3 := free_at hR3 0; have p4 := free_at hR3 1; have p5 := free_at hR3 2; have HR3 := Lib.hid hR3; have HD := Lib.hid q3; have HQ := Lib.hid q4; have HLOC := Lib.hid hloc; have HG3 := Lib.hid hgrow3; have k5 := cell_at q5 (o := 0) (v := v') rfl; obtain ⟨va, vc, hv'⟩ := ownsRow_slice hown3; clear hown3 hgrow3 hnil hloc q3 q4 q5 q6 hR3; subst hv')
          have r1 := heap_set (o := 0) HR3.out (.int .i64 (out.length : Int))
          have r2 := heap_set (o := 1) r1 (.int .i64 (q.2 : Int))
          have r3 := heap_set (o := 2) r2 (.int .u64 0)
          have q0 := cell_at r3 (o := 0) (v := .int .i64 (out.length : Int)) rfl
          have q1 := cell_at r3 (o := 1) (v := .int .i64 (q.2 : Int)) rfl
          have q2 := cell_at r3 (o := 2) (v := .int .u64 0) rfl
          have hWR : W.heap.size ≤ R := by omega
          have hG := ((HD.out.put (o := 0) HR3.out hWR (.int .i64 (out.length : Int))).put (o := 1) r1 hWR (.int .i64 (q.2 : Int))).put (o := 2) r2 hWR (.int .u64 0)
          have hch := ((HQ.out.set (b := R) (o := 0) (.int .i64 (out.length : Int)) (.inr fR)).set (b := R) (o := 1) (.int .i64 (q.2 : Int)) (.inr fR)).set (b := R) (o := 2) (.int .u64 0) (.inr fR)
          refine bodyPost_ret (v := .agg #[.int .i64 (out.length : Int), .int .i64 (q.2 : Int), .int .u64 0]) (by simp [results, Try.results47, go_sem, q0, q1, q2]) rfl ⟨by unfold ndV; rw [HIX.out], _, hG, hch, ?_⟩
          exact HLOC.out.elim .inl fun h => .inr ⟨_, h, by rw [size_alloc]; omega⟩
end

end Go.Proofs.Ytkjggomkkfknhaa
