import Derived.Test.YtleoedjjepkhgaaIsoPlay
import Derived.Test.YtleoedjjepkhgaaPlayV
import Derived.Test.YtleoedjjepkhgaaLate
import Derived.Deep.LoopGhost
import Derived.Deep.QuietTactic
import Derived.BigQuiet
/- seen's closure: a word is seen. -/
namespace Go.Proofs.Ytleoedjjepkhgaa
open Go.RowKit

theorem rNum_any (x : Int) (h : Wd x) (w : World) :
    Calls Try.prog 37 #[.int .u64 x] w fun e w' => e = .returned (.int .i64 (num x)) ∧ w' = w := by
  obtain ⟨h0, h1⟩ := h
  have hn : num x = if x < 9223372036854775808 then x / 2 else (x - 18446744073709551616) / 2 := rfl
  by_cases c : x < 9223372036854775808
  · rw [if_pos c] at hn
    rw [hn]
    have hd : decide (4611686018427387903 < x / 2) = false := decide_eq_false (by omega)
    clear hn
    go_enter Try.func37, Try.ntmps37
    go_wp2
    go_ret
    exact ⟨rfl, rfl⟩
  · rw [if_neg c] at hn
    rw [hn]
    have hd : decide (4611686018427387903 < x / 2) = true := decide_eq_true (by omega)
    clear hn
    go_enter Try.func37, Try.ntmps37
    go_wp2
    go_ret
    exact ⟨ret_i (by omega), rfl⟩

/-- what the closure holds: the arena, what was met, what was seen -/
structure SG (W w : World) (p : Nat) (S : St) (bA bO bM : Nat) (ov mv : Value) (t : List Nat × List Int) : Prop where
  chg : Chg [] W w
  kA : w.heap[bA]? = some (.cells #[.pointer (some ⟨p, 0, none⟩)] 44 (0, 0))
  kO : w.heap[bO]? = some (.cells #[ov] 42 (0, 0))
  kM : w.heap[bM]? = some (.cells #[mv] 28 (0, 0))
  rowO : w.ownsRow W.heap.size 2 1 ov t.2.length (ints t.2)
  rowM : w.ownsRow W.heap.size 49 1 mv t.1.length (words (ptrs S t.1))
  good : Good S t.1
  fO : W.heap.size ≤ bO
  fM : W.heap.size ≤ bM

theorem info_int64 : (Try.prog.info? 2).map (fun i => (i.zero, i.size, i.bytes)) = some (some (.int .i64 0), 1, 8) := by kernel_rfl

theorem cells_two (w : World) (x y : Value) (t : TypeId) : ∀ j u, [x, y][j]? = some u → (w.alloc (.cells #[x, y] t)).cell? ((⟨w.heap.size, 0, none⟩ : Addr).add j) = some u := by
  intro j u hj
  have hadd : (⟨w.heap.size, 0, none⟩ : Addr).add j = ⟨w.heap.size, j, none⟩ := by unfold Addr.add; split <;> simp_all
  rw [hadd]
  have := heap_alloc_new w (.cells #[x, y] t)
  simp only [World.cell?, this]
  simpa using hj

/-- the place of q, if it is among the first k that were met; else -1 -/
def metI (l : List Nat) (q k : Nat) : Int := if l.idxOf q < k then ((l.idxOf q : Nat) : Int) else -1

theorem metI_hit {l : List Nat} (hl : l.Nodup) {q k : Nat} (h : l[k]? = some q) : metI l q (k + 1) = (k : Int) := by
  obtain ⟨hk, h1⟩ := List.getElem?_eq_some_iff.1 h
  have h2 : l.idxOf q = k := by rw [← h1]; exact hl.idxOf_getElem k hk
  unfold metI
  rw [h2, if_pos (by omega)]

theorem metI_miss {l : List Nat} {q k i : Nat} (h : l[k]? = some i) (hne : ¬ i = q) : metI l q (k + 1) = metI l q k := by
  obtain ⟨hk, h1⟩ := List.getElem?_eq_some_iff.1 h
  have h2 : l.idxOf q ≠ k := by
    intro e
    have h3 : l.idxOf q < l.length := by omega
    have h4 : l[l.idxOf q] = q := List.getElem_idxOf _
    exact hne (by rw [← h1, ← h4]; congr 1; exact e.symm)
  unfold metI
  by_cases c : l.idxOf q < k
  · rw [if_pos c, if_pos (by omega)]
  · rw [if_neg c, if_neg (by omega)]

theorem ptrs_get' {S : St} {out : List Nat} {k i : Nat} (h : out[k]? = some i) : (words (ptrs S out))[k]? = some (.int .u64 (2 * ((S.pos i : Nat) : Int))) := by
  simp [words, ptrs, h]

section
variable {W w : World} {p h c : Nat} {sv : Value} {cs : List Int} {S : St} {bA bO bM : Nat} {ov mv : Value} {t : List Nat × List Int}

theorem SG.after {w' : World} (H : SG W w p S bA bO bM ov mv t) (hc : Chg [] w w') : SG W w' p S bA bO bM ov mv t :=
  ⟨H.chg.trans hc, hc.get H.kA (by simp), hc.get H.kO (by simp), hc.get H.kM (by simp), ownsRow_chg H.rowO hc (by simp), ownsRow_chg H.rowM hc (by simp), H.good, H.fO, H.fM⟩

theorem SG.putO {w1 w2 : World} {o : Obj} {v' : Value} {more : List Int} (H : SG W w p S bA bO bM ov mv t) (hc : Chg [] w w1) (hg : (w1.alloc o).grownBy w2 ov.ownBlock)
    (hown : w2.ownsRow W.heap.size 2 1 v' (t.2.length + more.length) (ints t.2 ++ ints more)) :
    w2.cell? ⟨bO, 0, none⟩ = some ov ∧ w2.frozen? ⟨bO, 0, none⟩ = false ∧ SG W (w2.setCell ⟨bO, 0, none⟩ v') p S bA bO bM v' mv (t.1, t.2 ++ more) := by
  have hA1 := hc.get H.kA (by simp)
  have hO1 := hc.get H.kO (by simp)
  have hM1 := hc.get H.kM (by simp)
  have hr1 := ownsRow_chg H.rowO hc (by simp)
  have hm1 := ownsRow_chg H.rowM hc (by simp)
  have past : ∀ k o, w1.heap[k]? = some o → ov.ownBlock ≠ some k → w2.heap[k]? = some o := by
    intro k o hk hne
    have hlt := lt_of_heap hk
    rw [hg.block k (by simp only [size_alloc]; omega) (fun e => hne e.symm), Below.heap_alloc _ _ _ hlt]
    exact hk
  have pA := past bA _ hA1 (own_ne' hr1 hA1 (by decide))
  have pM := past bM _ hM1 (own_ne' hr1 hM1 (by decide))
  have pO := past bO _ hO1 (own_ne' hr1 hO1 (by decide))
  have dAO : bA ≠ bO := row_ne H.kA H.kO (by decide)
  have dMO : bM ≠ bO := row_ne H.kM H.kO (by decide)
  have ch2 : Chg [] W w2 := ((H.chg.trans hc).alloc _).grown hg (fun k hk => .inr (H.rowO.lt k hk).1)
  have cg : Chg ov.ownBlock.toList w1 w2 := ((Chg.refl ov.ownBlock.toList w1).alloc o).grown hg (fun k hk => .inl (by rw [hk]; simp))
  have hm2 := ownsRow_chg hm1 cg (fun b hb hin => by rw [Option.mem_toList] at hin; exact own_two hm1 hr1 (by decide) hb hin)
  refine ⟨cell_at pO rfl, free_at pO 0, ⟨ch2.set _ (.inr H.fO), ?_, heap_set pO v', ?_, ?_, ?_, H.good, H.fO, H.fM⟩⟩
  · rw [heap_set_ne _ dAO]; exact pA
  · rw [heap_set_ne _ dMO]; exact pM
  · have e : ints (t.2 ++ more) = ints t.2 ++ ints more := by simp [ints]
    dsimp only
    rw [e, List.length_append]
    exact ownsRow_set hown (own_ne' hown pO (by decide)) _
  · exact ownsRow_set hm2 (own_ne' hm2 pO (by decide)) _

theorem SG.putM {w1 w2 : World} {o : Obj} {v' : Value} {i : Nat} (H : SG W w p S bA bO bM ov mv t) (hc : Chg [] w w1) (hgd : Good S (t.1 ++ [i])) (hg : (w1.alloc o).grownBy w2 mv.ownBlock)
    (hown : w2.ownsRow W.heap.size 49 1 v' (t.1.length + 1) (words (ptrs S t.1) ++ [.int .u64 (2 * ((S.pos i : Nat) : Int))])) :
    w2.cell? ⟨bM, 0, none⟩ = some mv ∧ w2.frozen? ⟨bM, 0, none⟩ = false ∧ SG W (w2.setCell ⟨bM, 0, none⟩ v') p S bA bO bM ov v' (t.1 ++ [i], t.2) := by
  have hA1 := hc.get H.kA (by simp)
  have hO1 := hc.get H.kO (by simp)
  have hM1 := hc.get H.kM (by simp)
  have hr1 := ownsRow_chg H.rowO hc (by simp)
  have hm1 := ownsRow_chg H.rowM hc (by simp)
  have past : ∀ k o, w1.heap[k]? = some o → mv.ownBlock ≠ some k → w2.heap[k]? = some o := by
    intro k o hk hne
    have hlt := lt_of_heap hk
    rw [hg.block k (by simp only [size_alloc]; omega) (fun e => hne e.symm), Below.heap_alloc _ _ _ hlt]
    exact hk
  have pA := past bA _ hA1 (own_ne' hm1 hA1 (by decide))
  have pM := past bM _ hM1 (own_ne' hm1 hM1 (by decide))
  have pO := past bO _ hO1 (own_ne' hm1 hO1 (by decide))
  have dAM : bA ≠ bM := row_ne H.kA H.kM (by decide)
  have dOM : bO ≠ bM := row_ne H.kO H.kM (by decide)
  have ch2 : Chg [] W w2 := ((H.chg.trans hc).alloc _).grown hg (fun k hk => .inr (H.rowM.lt k hk).1)
  have cg : Chg mv.ownBlock.toList w1 w2 := ((Chg.refl mv.ownBlock.toList w1).alloc o).grown hg (fun k hk => .inl (by rw [hk]; simp))
  have hr2 := ownsRow_chg hr1 cg (fun b hb hin => by rw [Option.mem_toList] at hin; exact own_two hr1 hm1 (by decide) hb hin)
  refine ⟨cell_at pM rfl, free_at pM 0, ⟨ch2.set _ (.inr H.fM), ?_, ?_, heap_set pM v', ?_, ?_, hgd, H.fO, H.fM⟩⟩
  · rw [heap_set_ne _ dAM]; exact pA
  · rw [heap_set_ne _ dOM]; exact pO
  · exact ownsRow_set hr2 (own_ne' hr2 pM (by decide)) _
  · have e : words (ptrs S (t.1 ++ [i])) = words (ptrs S t.1) ++ [.int .u64 (2 * ((S.pos i : Nat) : Int))] := by simp [ptrs, words]
    dsimp only
    rw [e, List.length_append, List.length_singleton]
    exact ownsRow_set hown (own_ne' hown pM (by decide)) _

set_option maxHeartbeats 2000000 in
set_option maxRecDepth 100000 in
theorem see_none (HA : AM W p h c sv cs S) (H : SG W w p S bA bO bM ov mv t) (x : Int) (hx : Wd x) (hf : S.find x = none) (hol : t.2.length ≤ 1000000000) :
    Calls Try.prog 35 #[.int .u64 x, .pointer (some ⟨bA, 0, none⟩), .pointer (some ⟨bO, 0, none⟩), .pointer (some ⟨bM, 0, none⟩)] w fun e w' =>
      e = .returned (.tuple #[]) ∧ ∃ ov' mv', SG W w' p S bA bO bM ov' mv' (seeS S t x) := by
  have HL := leads_am (HA.chg H.chg (by simp)) x hx.1 hx.2
  have kA := cell_at H.kA (o := 0) rfl
  have hgo : seeS S t x = (t.1, t.2 ++ [-1, num x]) := by unfold seeS; rw [hf]
  rw [hgo]
  have hlds : S.lds x = (0, 0) := by unfold St.lds; rw [hf]
  rw [hlds] at HL
  have HL' := Lib.hid HL
  have HH := Lib.hid H
  have HN := Lib.hid (fun w => rNum_any x hx w)
  obtain ⟨i0, hi, hz0, hz1, hz2⟩ := info_parts info_int64
  obtain ⟨oa, oc, rfl⟩ := ownsRow_slice H.rowO
  generalize num x = nx at HN ⊢
  clear HL H hgo hlds hf hx
  go_enter Try.func35, Try.ntmps35
  go_wp2_with (refine HL'.out.mono ?_; rintro e w' ⟨rfl, n, rfl⟩)
  have h1 := HH.out.after ((Chg.refl [] w).drewN n)
  generalize w.drewN n = w1 at h1 ⊢
  have kO := cell_at h1.kO (o := 0) rfl
  have H1 := Lib.hid h1
  clear h1 kA HL'
  refine region_late 3 _ _ rfl rfl rfl rfl (by kernel_rfl) (by kernel_rfl) (by intro _ _ d _ _ h; cases d <;> exact h) (.slice oa t.2.length oc) ?_ ?_
  · intro w' hk
    have k2 := hk _ _ kO
    clear hk
    go_simp
  · simp only [show (List.range (3 - 1)).map (· + 1) = [1, 2] from rfl, List.filterMap_cons, List.filterMap_nil, List.getElem?_cons_zero, List.getElem?_cons_succ]
    refine show wpQuiet _ _ _ _ [_, _] _ from ?_
    conv => arg 6; simp only [Act.put, List.setIfInBounds_toArray, List.set_cons_zero, List.set_cons_succ]
    repeat go_big_quiet_step ((go_at_call 37; exact Calls.quiet_of_same (HN.out _)))
    refine wpQuiet_nil ?_
    intro m
    refine ⟨_, _, by go_simp; exact ⟨rfl, rfl⟩, ?_⟩
    simp only [Act.put, List.setIfInBounds_toArray, List.set_cons_zero, List.set_cons_succ, List.drop_succ_cons, List.drop_zero]
    have HO1 := Lib.hid ((H1.out.after ((Chg.refl [] w1).drewN m)).rowO.alloc (.cells #[.int .i64 (-1), .int .i64 nx] 2))
    have hszw := H1.out.chg.size
    go_wp2_with (at_builtin; refine wpList_append_own_at _ rfl _ _ 42 rfl W.heap.size 2 i0 (.int .i64 0) 1 8 Try.underlying42 hi hz0 hz1 hz2 rfl (by decide) _ _ _ rfl HO1.out ⟨w1.heap.size, 0, none⟩ 2 2 [.int .i64 (-1), .int .i64 nx] rfl rfl (by exact cells_two (w1.drewN m) _ _ _) (ints_oneCell .i64 [-1, nx]) (by unfold maxLen; omega) (by omega) (by simp; omega) ?_; intro v' w4 hown4 hgrow4 hnil hloc; obtain ⟨q1, q2, q3⟩ := H1.out.putO (more := [-1, nx]) ((Chg.refl [] w1).drewN m) hgrow4 hown4; have HD := Lib.hid q3; obtain ⟨va, vc, hv'⟩ := ownsRow_slice hown4; clear hown4 hgrow4 hnil hloc q3; subst hv')
    exact bodyPost_ret (results_none rfl _ _ _) rfl ⟨rfl, _, _, HD.out⟩

set_option maxHeartbeats 4000000 in
set_option maxRecDepth 100000 in
theorem see_some (HA : AM W p h c sv cs S) (H : SG W w p S bA bO bM ov mv t) (x : Int) (hx : Wd x) {q : Nat × Nat} (hf : S.find x = some q) (hol : t.2.length ≤ 1000000000) :
    Calls Try.prog 35 #[.int .u64 x, .pointer (some ⟨bA, 0, none⟩), .pointer (some ⟨bO, 0, none⟩), .pointer (some ⟨bM, 0, none⟩)] w fun e w' =>
      e = .returned (.tuple #[]) ∧ ∃ ov' mv', SG W w' p S bA bO bM ov' mv' (seeS S t x) := by
  have HL := leads_am (HA.chg H.chg (by simp)) x hx.1 hx.2
  have kA := cell_at H.kA (o := 0) rfl
  have hlt := find_lt hf
  have hb := HA.bounds hlt
  have hlen := H.good.length_le
  have hcnt := HA.count
  have hlds : S.lds x = (2 * ((S.pos q.1 : Nat) : Int), ((q.2 : Nat) : Int)) := by unfold St.lds; rw [hf]
  rw [hlds] at HL
  have hmt : meet S t.1 x = if q.1 ∈ t.1 then t.1 else t.1 ++ [q.1] := by unfold meet; rw [hf]
  have hgm := good_meet H.good x
  have hgo : seeS S t x = (meet S t.1 x, t.2 ++ [((meet S t.1 x).idxOf q.1 : Int), (q.2 : Int)]) := by unfold seeS; rw [hf]
  rw [hmt] at hgm hgo
  generalize seeS S t x = T' at hgo ⊢
  have HGO := Lib.hid hgo
  have hne : ((2 * ((S.pos q.1 : Nat) : Int)) == 0) = false := beq_eq_false_iff_ne.2 (by omega)
  have HL' := Lib.hid HL
  have HH := Lib.hid H
  obtain ⟨i0, hi, hz0, hz1, hz2⟩ := info_parts info_int64
  obtain ⟨j0, hj, hy0, hy1, hy2⟩ := info_parts info_word
  obtain ⟨oa, oc, rfl⟩ := ownsRow_slice H.rowO
  obtain ⟨ma, mc, rfl⟩ := ownsRow_slice H.rowM
  have HGM := Lib.hid hgm
  clear HL H hgo hlds hx hmt hgm hf
  go_enter Try.func35, Try.ntmps35
  go_wp2_with (refine HL'.out.mono ?_; rintro e w' ⟨rfl, n, rfl⟩; have h1 := HH.out.after ((Chg.refl [] w).drewN n); generalize w.drewN n = w1 at h1 ⊢; have kM := cell_at h1.kM (o := 0) rfl; have H1 := Lib.hid h1; clear h1 kA HL')
  have hptr : ∀ k, k < t.1.length → ∃ g i, ma = some ⟨g, 0, none⟩ ∧ t.1[k]? = some i ∧ i < S.L.length ∧ w1.cell? ⟨g, k, none⟩ = some (.int .u64 (2 * ((S.pos i : Nat) : Int))) := by
    intro k hk
    obtain ⟨i, hi⟩ : ∃ i, t.1[k]? = some i := ⟨_, List.getElem?_eq_getElem hk⟩
    have hil : i < S.L.length := HH.out.good.lt i (List.mem_of_getElem? hi)
    rcases H1.out.rowM.2 with ⟨h1, h2⟩ | ⟨g, cap, cur, h1, _, h3, _, _, h4, h5⟩
    · simp only [Value.slice.injEq] at h1; omega
    · simp only [Value.slice.injEq] at h1
      refine ⟨g, i, h1.1, hi, hil, cell_at h3 ?_⟩
      have h6 := ptrs_get' (S := S) hi
      rw [← h5, List.getElem?_take] at h6
      simpa [hk] using h6
  have HP := Lib.hid hptr
  clear hptr
  have hszw := H1.out.chg.size
  obtain ⟨q1, q2⟩ := q
  dsimp only at *
  go_loopg [7, 24] t.1.length (fun gh v7 v24 wr => ∃ k : Nat, gh = t.1.length - k ∧ k ≤ t.1.length ∧ v24 = .int .i64 ((k : Nat) : Int) ∧ v7 = .int .i64 (metI t.1 q1 k) ∧ w1 = wr)
  case atStart => exact ⟨0, rfl, Nat.zero_le _, rfl, rfl, rfl⟩
  case round =>
    obtain ⟨k, hgk, hk, rfl, rfl, rfl⟩ := hrel
    by_cases hlt2 : k < t.1.length
    · have hdec : decide ((k : Int) < (t.1.length : Int)) = true := decide_eq_true (by omega)
      obtain ⟨g, i, rfl, hi, hi2, hc⟩ := HP.out k hlt2
      by_cases e : i = q1
      · subst e
        have hne2 : ((2 * ((S.pos i : Nat) : Int)) == (2 * ((S.pos i : Nat) : Int))) = true := beq_self_eq_true _
        have HM := Lib.hid (metI_hit HH.out.good.nodup hi)
        clear hi
        go_wp2
        go_roundg (t.1.length - (k + 1))
        case measure => omega
        case rel => exact ⟨k + 1, rfl, by omega, by go_num, by rw [HM.out], rfl⟩
      · have hne2 : ((2 * ((S.pos i : Nat) : Int)) == (2 * ((S.pos q1 : Nat) : Int))) = false := by
          refine beq_eq_false_iff_ne.2 (fun e2 => e ?_)
          exact pos_inj hi2 hlt (by omega)
        have HM := Lib.hid (metI_miss hi e)
        clear hi e
        go_wp2
        go_roundg (t.1.length - (k + 1))
        case measure => omega
        case rel => exact ⟨k + 1, rfl, by omega, by go_num, by rw [HM.out], rfl⟩
    · obtain rfl : k = t.1.length := by omega
      have hdec : decide ((t.1.length : Int) < (t.1.length : Int)) = false := decide_eq_false (by omega)
      have kO := cell_at H1.out.kO (o := 0) rfl
      have zO := free_at H1.out.kO 0
      have kM := cell_at H1.out.kM (o := 0) rfl
      have zM := free_at H1.out.kM 0
      by_cases hm : q1 ∈ t.1
      · have hidx := (idx_get hm).1
        have hmi : metI t.1 q1 t.1.length = ((t.1.idxOf q1 : Nat) : Int) := by unfold metI; rw [if_pos hidx]
        have hgo := HGO.out
        rw [if_pos hm] at hgo
        rw [hmi]
        generalize t.1.idxOf q1 = ix at hidx hgo ⊢
        have HGO2 := Lib.hid hgo
        clear hgo
        have HO1 := Lib.hid (H1.out.rowO.alloc (.cells #[.int .i64 (ix : Int), .int .i64 (q2 : Int)] 2))
        have hd0 : decide ((ix : Int) < 0) = false := decide_eq_false (by omega)
        clear hmi hm HP hidx
        go_wp2_with (at_builtin; refine wpList_append_own_at _ rfl _ _ 42 rfl W.heap.size 2 i0 (.int .i64 0) 1 8 Try.underlying42 hi hz0 hz1 hz2 rfl (by decide) _ _ _ rfl HO1.out ⟨w1.heap.size, 0, none⟩ 2 2 [.int .i64 (ix : Int), .int .i64 (q2 : Int)] rfl rfl (by exact cells_two w1 _ _ _) (ints_oneCell .i64 [(ix : Int), (q2 : Int)]) (by unfold maxLen; omega) (by omega) (by simp; omega) ?_; intro v' w4 hown4 hgrow4 hnil hloc; obtain ⟨y1, y2, y3⟩ := H1.out.putO (more := [(ix : Int), (q2 : Int)]) (Chg.refl [] w1) hgrow4 hown4; have HD := Lib.hid y3; obtain ⟨va, vc, hv'⟩ := ownsRow_slice hown4; clear hown4 hgrow4 hnil hloc y3; subst hv')
        go_end0
        exact ⟨rfl, _, _, by rw [HGO2.out]; exact HD.out⟩
      · have hidx : t.1.idxOf q1 = t.1.length := List.idxOf_eq_length hm
        have hmi : metI t.1 q1 t.1.length = -1 := by unfold metI; rw [hidx, if_neg (by omega)]
        have hix : (t.1 ++ [q1]).idxOf q1 = t.1.length := by rw [List.idxOf_append, if_neg hm]; simp
        have HGM2 := Lib.hid (show Good S (t.1 ++ [q1]) by have := HGM.out; rwa [if_neg hm] at this)
        have hgo := HGO.out
        rw [if_neg hm, hix] at hgo
        have HGO2 := Lib.hid hgo
        clear hgo
        rw [hmi]
        have HO1 := Lib.hid (H1.out.rowM.alloc (.cells #[.int .u64 (2 * ((S.pos q1 : Nat) : Int))] 49))
        clear hmi hix hidx hm HP
        go_upto_region 13 with (at_builtin; refine wpList_append_own_at _ rfl _ _ 28 rfl W.heap.size 49 j0 (.int .u64 0) 1 8 Try.underlying28 hj hy0 hy1 hy2 rfl (by decide) _ _ _ rfl HO1.out ⟨w1.heap.size, 0, none⟩ 1 1 [.int .u64 (2 * ((S.pos q1 : Nat) : Int))] rfl rfl (by exact cell_one_new w1 _ _) (ints_oneCell .u64 [2 * ((S.pos q1 : Nat) : Int)]) (by unfold maxLen; omega) (by omega) (by simp; omega) ?_; intro v' w4 hown4 hgrow4 hnil hloc; obtain ⟨y1, y2, y3⟩ := H1.out.putM (Chg.refl [] w1) HGM2.out hgrow4 hown4; have HD := Lib.hid y3; obtain ⟨va, vc, hv'⟩ := ownsRow_slice hown4; clear hown4 hgrow4 hnil hloc y3; subst hv')
        have h4 := HD.out
        generalize (w4.setCell ⟨bM, 0, none⟩ (.slice va (t.1.length + 1) vc)) = w5 at h4 ⊢
        have H5 := Lib.hid h4
        have kO5 := cell_at h4.kO (o := 0) rfl
        have zO5 := free_at h4.kO 0
        have HO5 := Lib.hid (h4.rowO.alloc (.cells #[.int .i64 (t.1.length : Int), .int .i64 (q2 : Int)] 2))
        have hszw5 := h4.chg.size
        clear h4 kO kM zO zM HO1 HD
        go_wp2_with (at_builtin; refine wpList_append_own_at _ rfl _ _ 42 rfl W.heap.size 2 i0 (.int .i64 0) 1 8 Try.underlying42 hi hz0 hz1 hz2 rfl (by decide) _ _ _ rfl HO5.out ⟨w5.heap.size, 0, none⟩ 2 2 [.int .i64 (t.1.length : Int), .int .i64 (q2 : Int)] rfl rfl (by exact cells_two w5 _ _ _) (ints_oneCell .i64 [(t.1.length : Int), (q2 : Int)]) (by unfold maxLen; dsimp only; omega) (by dsimp only; omega) (by simp; omega) ?_; intro v' w6 hown4 hgrow4 hnil hloc; obtain ⟨y1, y2, y3⟩ := H5.out.putO (more := [(t.1.length : Int), (q2 : Int)]) (Chg.refl [] w5) hgrow4 hown4; have HD := Lib.hid y3; obtain ⟨va, vc, hv'⟩ := ownsRow_slice hown4; clear hown4 hgrow4 hnil hloc y3; subst hv')
        go_end0
        exact ⟨rfl, _, _, by rw [HGO2.out]; exact HD.out⟩

theorem see_am (HA : AM W p h c sv cs S) (H : SG W w p S bA bO bM ov mv t) (x : Int) (hx : Wd x) (hol : t.2.length ≤ 1000000000) :
    Calls Try.prog 35 #[.int .u64 x, .pointer (some ⟨bA, 0, none⟩), .pointer (some ⟨bO, 0, none⟩), .pointer (some ⟨bM, 0, none⟩)] w fun e w' =>
      e = .returned (.tuple #[]) ∧ ∃ ov' mv', SG W w' p S bA bO bM ov' mv' (seeS S t x) := by
  cases hf : S.find x with
  | none => exact see_none HA H x hx hf hol
  | some q => exact see_some HA H x hx hf hol
end

end Go.Proofs.Ytleoedjjepkhgaa
