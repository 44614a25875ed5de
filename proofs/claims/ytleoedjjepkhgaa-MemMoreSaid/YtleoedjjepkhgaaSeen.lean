import Derived.Test.YtleoedjjepkhgaaSeeM
import Derived.Deep.CutRange
/- seen: what can be seen of words. -/
namespace Go.Proofs.Ytleoedjjepkhgaa
open Go.RowKit

theorem prefix_see (S : St) (t : List Nat × List Int) (x : Int) : t.1 <+: (seeS S t x).1 := by
  unfold seeS
  split
  · exact List.prefix_refl _
  · exact prefix_meet S t.1 x

theorem prefix_sees (S : St) : ∀ (ws : List Int) (t : List Nat × List Int), t.1 <+: (ws.foldl (seeS S) t).1
  | [], _ => List.prefix_refl _
  | x :: ws, t => (prefix_see S t x).trans (prefix_sees S ws (seeS S t x))

theorem len_see (S : St) (t : List Nat × List Int) (x : Int) : (seeS S t x).2.length = t.2.length + 2 := by
  unfold seeS
  split <;> simp

theorem len_sees (S : St) : ∀ (ws : List Int) (t : List Nat × List Int), (ws.foldl (seeS S) t).2.length = t.2.length + 2 * ws.length
  | [], _ => rfl
  | x :: ws, t => by rw [List.foldl_cons, len_sees S ws, len_see, List.length_cons]; omega

theorem fold_take_succ {S : St} {ws : List Int} {k : Nat} (h : k < ws.length) (t : List Nat × List Int) : (ws.take (k + 1)).foldl (seeS S) t = seeS S ((ws.take k).foldl (seeS S) t) (wat ws k) := by
  rw [List.take_add_one, wat_get h, List.foldl_append]; rfl

theorem seenS_succ {S : St} {roots : List Int} {k i : Nat} (h : (seenS S roots k).1[k]? = some i) :
    seenS S roots (k + 1) = (S.blk i).fs.foldl (seeS S) ((seenS S roots k).1, (seenS S roots k).2 ++ [((S.blk i).tag : Int), ((S.blk i).fs.length : Int)]) := by
  show (match (seenS S roots k).1[k]? with | none => seenS S roots k | some i => (S.blk i).fs.foldl (seeS S) ((seenS S roots k).1, (seenS S roots k).2 ++ [((S.blk i).tag : Int), ((S.blk i).fs.length : Int)])) = _
  rw [h]

theorem row_get {w : World} {base : Nat} {e : TypeId} {a : Option Addr} {n cap : Nat} {xs : List Value} (hr : w.ownsRow base e 1 (.slice a n cap) n xs) {k : Nat} {u : Value} (hk : xs[k]? = some u) : ∃ g, a = some ⟨g, 0, none⟩ ∧ w.cell? ⟨g, k, none⟩ = some u := by
  have hkl := (List.getElem?_eq_some_iff.1 hk).1
  rcases hr.2 with ⟨h1, h2⟩ | ⟨g, cap, cur, h1, _, h3, _, _, h4, h5⟩
  · have := hr.1
    simp only [Value.slice.injEq] at h1
    omega
  · simp only [Value.slice.injEq] at h1
    refine ⟨g, h1.1, cell_at h3 ?_⟩
    rw [← h5, List.getElem?_take] at hk
    split at hk
    · simpa using hk
    · cases hk

section
variable {W w : World} {p h c : Nat} {sv : Value} {cs : List Int} {S : St}

set_option maxHeartbeats 4000000 in
set_option maxRecDepth 100000 in
theorem seen_am (HA : AM W p h c sv cs S) (rv : Value) (roots : List Int) (hr : W.ownsRow 0 49 1 rv roots.length (words roots)) (hw : ∀ x ∈ roots, Wd x) (hrl : roots.length ≤ 1000000) :
    Calls Try.prog 13 #[.pointer (some ⟨p, 0, none⟩), rv] W fun e w' => ∃ v, e = .returned v ∧ Chg [] W w' ∧ w'.ownsRow W.heap.size 2 1 v (S.seen roots).length (ints (S.seen roots)) := by
  obtain ⟨ra, rc, rfl⟩ := ownsRow_slice hr
  obtain ⟨i0, hi, hz0, hz1, hz2⟩ := info_parts info_int64
  have HR := Lib.hid hr
  have HW := Lib.hid hw
  have hcnt := HA.count
  clear hr hw
  go_enter Try.func13, Try.ntmps13
  go_wp2_with fail
  have hst0 : SG W (((((W.alloc (Obj.cells #[Value.pointer (some ⟨p, 0, none⟩)] 44)).alloc (Obj.cells #[] 49)).alloc (Obj.cells #[Value.slice (some ⟨W.heap.size + 1, 0, none⟩) 0 0] 28)).alloc (Obj.cells #[] 2)).alloc (Obj.cells #[Value.slice (some ⟨W.heap.size + 1 + 1 + 1, 0, none⟩) 0 0] 42))
      p S W.heap.size (W.heap.size + 1 + 1 + 1 + 1) (W.heap.size + 1 + 1) (.slice (some ⟨W.heap.size + 1 + 1 + 1, 0, none⟩) 0 0) (.slice (some ⟨W.heap.size + 1, 0, none⟩) 0 0) ([], []) := by
    refine ⟨(((((Chg.refl [] W).alloc _).alloc _).alloc _).alloc _).alloc _, ?_, ?_, ?_, ⟨rfl, .inr ⟨W.heap.size + 1 + 1 + 1, 0, #[], rfl, by omega, ?_, Nat.le_refl _, by unfold maxLen; omega, rfl, rfl⟩⟩, ⟨rfl, .inr ⟨W.heap.size + 1, 0, #[], rfl, by omega, ?_, Nat.le_refl _, by unfold maxLen; omega, rfl, rfl⟩⟩, ⟨List.nodup_nil, by simp⟩, by omega, by omega⟩
    · iterate 4 rw [Below.heap_alloc _ _ _ (by simp only [size_alloc]; omega)]
      exact heap_alloc_new _ _
    · exact heap_at_new _ _ (by simp only [size_alloc])
    · iterate 2 rw [Below.heap_alloc _ _ _ (by simp only [size_alloc]; omega)]
      exact heap_at_new _ _ (by simp only [size_alloc])
    · iterate 1 rw [Below.heap_alloc _ _ _ (by simp only [size_alloc]; omega)]
      exact heap_at_new _ _ (by simp only [size_alloc])
    · iterate 3 rw [Below.heap_alloc _ _ _ (by simp only [size_alloc]; omega)]
      exact heap_at_new _ _ (by simp only [size_alloc])
  have H0 := Lib.hid hst0
  clear hst0
  generalize (((((W.alloc (Obj.cells #[Value.pointer (some ⟨p, 0, none⟩)] 44)).alloc (Obj.cells #[] 49)).alloc (Obj.cells #[Value.slice (some ⟨W.heap.size + 1, 0, none⟩) 0 0] 28)).alloc (Obj.cells #[] 2)).alloc (Obj.cells #[Value.slice (some ⟨W.heap.size + 1 + 1 + 1, 0, none⟩) 0 0] 42)) = w0 at H0 ⊢
  generalize W.heap.size + 1 + 1 + 1 + 1 = bO at H0 ⊢
  generalize W.heap.size + 1 + 1 + 1 = b3 at H0 ⊢
  generalize W.heap.size + 1 + 1 = bM at H0 ⊢
  generalize W.heap.size + 1 = b1 at H0 ⊢
  obtain ⟨bA, hbA⟩ : ∃ b, b = W.heap.size := ⟨_, rfl⟩
  have H00 := Lib.hid (show ∃ ov mv, SG W w0 p S bA bO bM ov mv ([], []) by rw [hbA]; exact ⟨_, _, H0.out⟩)
  rw [← hbA]
  clear H0 hbA
  go_loopg [18] roots.length (fun gh v18 wr => ∃ k : Nat, gh = roots.length - k ∧ k ≤ roots.length ∧ v18 = .int .i64 ((k : Nat) : Int) ∧ ∃ ov mv, SG W wr p S bA bO bM ov mv ((roots.take k).foldl (seeS S) ([], [])))
  case atStart => exact ⟨0, rfl, Nat.zero_le _, rfl, H00.out⟩
  case round =>
    clear H00
    obtain ⟨k, hgk, hk, rfl, ov, mv, hs⟩ := hrel
    by_cases hlt : k < roots.length
    · have hdec : decide ((k : Int) < (roots.length : Int)) = true := decide_eq_true (by omega)
      obtain ⟨g, rfl, hc⟩ := row_get (ownsRow_chg HR.out hs.chg (by simp)) (words_get hlt)
      have hol : ((roots.take k).foldl (seeS S) ([], [])).2.length ≤ 1000000000 := by rw [len_sees]; simp; omega
      have HSE := Lib.hid (see_am HA hs (wat roots k) (HW.out _ (wat_mem hlt)) hol)
      have HFS := Lib.hid (fold_take_succ (S := S) hlt ([], []))
      clear hs hol
      go_wp2_with fail
      refine HSE.out.mono ?_
      rintro e w' ⟨rfl, ov', mv', hs'⟩
      have HS' := Lib.hid hs'
      clear hs' HSE
      go_wp2_with fail
      go_roundg (roots.length - (k + 1))
      case measure => omega
      case rel => exact ⟨k + 1, rfl, by omega, by go_num, ov', mv', by rw [HFS.out]; exact HS'.out⟩
    · obtain rfl : k = roots.length := by omega
      have hdec : decide ((roots.length : Int) < (roots.length : Int)) = false := decide_eq_false (by omega)
      have HS0 := Lib.hid (show ∃ ov mv, SG W wr p S bA bO bM ov mv (seenS S roots 0) by rw [List.take_length] at hs; exact ⟨_, _, hs⟩)
      have HL0 := Lib.hid (show (seenS S roots 0).2.length ≤ 2 * roots.length + 0 * 8194 by
        have := len_sees S roots ([], [])
        show (roots.foldl (seeS S) ([], [])).2.length ≤ _
        rw [this]; simp)
      clear hs
      go_wp2_with fail
      go_loopg [9] S.L.length (fun gh v9 wr => ∃ k : Nat, gh = S.L.length - k ∧ k ≤ (seenS S roots k).1.length ∧ v9 = .int .i64 ((k : Nat) : Int) ∧ (seenS S roots k).2.length ≤ 2 * roots.length + k * 8194 ∧ ∃ ov mv, SG W wr p S bA bO bM ov mv (seenS S roots k))
      case atStart => exact ⟨0, rfl, Nat.zero_le _, rfl, HL0.out, HS0.out⟩
      case round =>
        clear HS0 HL0
        obtain ⟨k, hgk, hk, rfl, hol, ov, mv, hs⟩ := hrel
        have hlen := hs.good.length_le
        obtain ⟨ma, mc, rfl⟩ := ownsRow_slice hs.rowM
        obtain ⟨oa, oc, rfl⟩ := ownsRow_slice hs.rowO
        have kM := cell_at hs.kM (o := 0) rfl
        have HS := Lib.hid hs
        by_cases hlt : k < (seenS S roots k).1.length
        · obtain ⟨i, hi⟩ : ∃ i, (seenS S roots k).1[k]? = some i := ⟨_, List.getElem?_eq_getElem hlt⟩
          have hil : i < S.L.length := hs.good.lt i (List.mem_of_getElem? hi)
          obtain ⟨g, rfl, cm⟩ := row_get hs.rowM (ptrs_get' (S := S) hi)
          have HSC := Lib.hid (seenS_succ hi)
          have HHI := Lib.hid hi
          have hfi := find_at HA.ok hil
          have hwx : Wd (2 * ((S.pos i : Nat) : Int)) := ptr_wd (a := S.pos i) (by have := pos_le HA.ok hil; omega)
          have htg := fun n => tag_am (HA.chg (hs.chg.drewN n) (by simp)) (2 * ((S.pos i : Nat) : Int)) hwx.1 hwx.2
          have hsz := fun n => size_am (HA.chg (hs.chg.drewN n) (by simp)) (2 * ((S.pos i : Nat) : Int)) hwx.1 hwx.2
          have ht1 : S.tagOf (2 * ((S.pos i : Nat) : Int)) = ((S.blk i).tag : Int) := by unfold St.tagOf; rw [show (2 * ((S.pos i : Nat) : Int)) = ptr (S.pos i) from rfl, hfi]
          have hz1 : S.sizeOf (2 * ((S.pos i : Nat) : Int)) = ((S.blk i).fs.length : Int) := by unfold St.sizeOf; rw [show (2 * ((S.pos i : Nat) : Int)) = ptr (S.pos i) from rfl, hfi]
          rw [ht1] at htg
          rw [hz1] at hsz
          have HTG := Lib.hid htg
          have HSZ := Lib.hid hsz
          have hdec : decide ((k : Int) < ((seenS S roots k).1.length : Int)) = true := decide_eq_true (by omega)
          have hbk := HA.blkOk hil
          have hfl := hbk.size
          have HBW := Lib.hid hbk.words
          have kO := cell_at hs.kO (o := 0) rfl
          have kA := cell_at hs.kA (o := 0) rfl
          clear hs hi htg hsz ht1 hz1 hfi hbk
          obtain ⟨fs, hfs⟩ : ∃ fs, fs = (S.blk i).fs := ⟨_, rfl⟩
          obtain ⟨tg, htg⟩ : ∃ tg, tg = (S.blk i).tag := ⟨_, rfl⟩
          rw [← hfs, ← htg] at HSC
          rw [← htg] at HTG
          rw [← hfs] at HSZ HBW hfl
          have HFS := Lib.hid hfs
          clear hfs htg
          go_upto_region 12 with fail
          refine region_late 13 _ _ rfl rfl rfl rfl (by kernel_rfl) (by kernel_rfl) (by intro _ _ d _ _ h; cases d <;> exact h) (.slice oa (seenS S roots k).2.length oc) ?_ ?_
          · intro w' hk'
            have k2 := hk' _ _ kO
            clear hk'
            go_simp
          · simp only [show (List.range (13 - 1)).map (· + 1) = [1, 2, 3, 4, 5, 6, 7, 8, 9, 10, 11, 12] from rfl, List.filterMap_cons, List.filterMap_nil, List.getElem?_cons_zero, List.getElem?_cons_succ]
            refine show wpQuiet _ _ _ _ [_, _, _, _, _, _, _, _, _, _, _, _] _ from ?_
            conv => arg 6; simp only [Act.put, List.setIfInBounds_toArray, List.set_cons_zero, List.set_cons_succ]
            repeat go_big_quiet_step ((first | (go_at_call 25; exact Calls.quiet_of (HTG.out _)) | (go_at_call 26; exact Calls.quiet_of (HSZ.out _))))
            refine wpQuiet_nil ?_
            intro m
            refine ⟨_, _, by go_simp; exact ⟨rfl, rfl⟩, ?_⟩
            simp only [Act.put, List.setIfInBounds_toArray, List.set_cons_zero, List.set_cons_succ, List.drop_succ_cons, List.drop_zero]
            have HO1 := Lib.hid ((HS.out.after ((Chg.refl [] wr).drewN m)).rowO.alloc (.cells #[.int .i64 (tg : Int), .int .i64 (fs.length : Int)] 2))
            have hszw := HS.out.chg.size
            have hkl : k < S.L.length := by omega
            go_wp2_with (at_builtin; refine wpList_append_own_at _ rfl _ _ 42 rfl W.heap.size 2 i0 (.int .i64 0) 1 8 Try.underlying42 hi hz0 hz1 hz2 rfl (by decide) _ _ _ rfl HO1.out ⟨wr.heap.size, 0, none⟩ 2 2 [.int .i64 (tg : Int), .int .i64 (fs.length : Int)] rfl rfl (by exact cells_two (wr.drewN m) _ _ _) (ints_oneCell .i64 [(tg : Int), (fs.length : Int)]) (by unfold maxLen; omega) (by omega) (by simp; omega) ?_; intro v' w4 hown4 hgrow4 hnil hloc; obtain ⟨y1, y2, y3⟩ := HS.out.putO (more := [(tg : Int), (fs.length : Int)]) ((Chg.refl [] wr).drewN m) hgrow4 hown4; have HD := Lib.hid y3; obtain ⟨va, vc, hv'⟩ := ownsRow_slice hown4; clear hown4 hgrow4 hnil hloc y3; subst hv')
            have HD2 := Lib.hid (show ∃ ov mv, SG W (w4.setCell ⟨bO, 0, none⟩ (.slice va ((seenS S roots k).2.length + 2) vc)) p S bA bO bM ov mv ((fs.take 0).foldl (seeS S) ((seenS S roots k).1, (seenS S roots k).2 ++ [(tg : Int), (fs.length : Int)])) from ⟨_, _, HD.out⟩)
            clear HD HO1 y1 y2 kM kO kA cm HTG HSZ
            generalize w4.setCell ⟨bO, 0, none⟩ (.slice va ((seenS S roots k).2.length + 2) vc) = w5 at HD2 ⊢
            go_loopg [10] fs.length (fun gi v10 wr => ∃ j : Nat, gi = fs.length - j ∧ j ≤ fs.length ∧ v10 = .int .i64 ((j : Nat) : Int) ∧ ∃ ov mv, SG W wr p S bA bO bM ov mv ((fs.take j).foldl (seeS S) ((seenS S roots k).1, (seenS S roots k).2 ++ [(tg : Int), (fs.length : Int)])))
            case atStart => exact ⟨0, rfl, Nat.zero_le _, rfl, HD2.out⟩
            case round =>
              clear HD2
              obtain ⟨j, hgj, hj, rfl, ov, mv, hs⟩ := hrel
              have hpre := prefix_sees S (fs.take j) ((seenS S roots k).1, (seenS S roots k).2 ++ [(tg : Int), (fs.length : Int)])
              have hlj := len_sees S (fs.take j) ((seenS S roots k).1, (seenS S roots k).2 ++ [(tg : Int), (fs.length : Int)])
              have hij : ((fs.take j).foldl (seeS S) ((seenS S roots k).1, (seenS S roots k).2 ++ [(tg : Int), (fs.length : Int)])).1[k]? = some i := by
                have h1 := List.prefix_iff_getElem?.1 hpre k hlt
                have h2 := (List.getElem?_eq_some_iff.1 HHI.out).2
                rw [h1]
                exact congrArg some h2
              have HNX := fun (hj : j < fs.length) => Lib.hid (fold_take_succ (S := S) hj ((seenS S roots k).1, (seenS S roots k).2 ++ [(tg : Int), (fs.length : Int)]))
              dsimp only at hlj
              obtain ⟨M, hMM⟩ : ∃ M, M = (fs.take j).foldl (seeS S) ((seenS S roots k).1, (seenS S roots k).2 ++ [(tg : Int), (fs.length : Int)]) := ⟨_, rfl⟩
              rw [← hMM] at hs hij hlj HNX
              have HMM := Lib.hid hMM.symm
              clear hMM
              have htk : (fs.take j).length ≤ j := List.length_take_le _ _
              have hlM : M.2.length ≤ 1000000000 := by
                rw [hlj]; simp only [List.length_append, List.length_cons, List.length_nil]; omega
              obtain ⟨ma', mc', rfl⟩ := ownsRow_slice hs.rowM
              have kM := cell_at hs.kM (o := 0) rfl
              have kA := cell_at hs.kA (o := 0) rfl
              obtain ⟨g2, rfl, cm⟩ := row_get hs.rowM (ptrs_get' (S := S) hij)
              have hkM : k < M.1.length := (List.getElem?_eq_some_iff.1 hij).1
              have hfi := find_at HA.ok hil
              have hwx : Wd (2 * ((S.pos i : Nat) : Int)) := ptr_wd (a := S.pos i) (by have := pos_le HA.ok hil; omega)
              have hsz := fun n => size_am (HA.chg (hs.chg.drewN n) (by simp)) (2 * ((S.pos i : Nat) : Int)) hwx.1 hwx.2
              have hz1' : S.sizeOf (2 * ((S.pos i : Nat) : Int)) = (fs.length : Int) := by unfold St.sizeOf; rw [show (2 * ((S.pos i : Nat) : Int)) = ptr (S.pos i) from rfl, hfi, HFS.out]
              rw [hz1'] at hsz
              have HSZ := Lib.hid hsz
              have HS := Lib.hid hs
              by_cases hlt2 : j < fs.length
              · have hdec3 : decide ((j : Int) < (fs.length : Int)) = true := decide_eq_true (by omega)
                have hgt := fun n => get_am (HA.chg (hs.chg.drewN n) (by simp)) (2 * ((S.pos i : Nat) : Int)) (j : Int) hwx.1 hwx.2
                have hg1 : S.get (2 * ((S.pos i : Nat) : Int)) (j : Int) = (wat fs j, 0) := by
                  unfold St.get
                  rw [show (2 * ((S.pos i : Nat) : Int)) = ptr (S.pos i) from rfl, hfi]
                  dsimp only
                  rw [← HFS.out, if_neg (by omega)]
                  rfl
                rw [hg1] at hgt
                have HGT := Lib.hid hgt
                have HNX2 := HNX hlt2
                have hwj := HBW.out _ (wat_mem hlt2)
                have HWJ := Lib.hid hwj
                generalize wat fs j = xj at HGT HNX2 HWJ
                clear hs hsz hgt hg1 hz1' hfi hij hpre HNX hwj hlj
                go_upto_region 14 with fail
                refine region_quiet (by kernel_rfl) (by kernel_rfl) ?_
                repeat go_big_quiet_step ((go_at_call 26; exact Calls.quiet_of (HSZ.out _)))
                refine wpQuiet_nil ?_
                intro m1
                go_upto_region 16 with fail
                refine region_quiet_at (by kernel_rfl) (by kernel_rfl) ?_
                repeat go_big_quiet_step ((go_at_call 27; exact Calls.quiet_of (HGT.out _)))
                refine wpQuiet_nil ?_
                intro m2
                have HSE := Lib.hid (see_am HA (HS.out.after ((Chg.refl [] wr).drewN m2)) xj HWJ.out hlM)
                clear kM kA cm HSZ HGT
                go_wp2_with fail
                refine HSE.out.mono ?_
                rintro e w' ⟨rfl, ov', mv', hs'⟩
                have HS' := Lib.hid hs'
                clear hs' HSE
                go_wp2_with fail
                go_roundg (fs.length - (j + 1))
                case measure => omega
                case rel => exact ⟨j + 1, rfl, by omega, by go_num, ov', mv', by rw [HNX2.out]; exact HS'.out⟩
              · obtain rfl : j = fs.length := by omega
                have hdec3 : decide ((fs.length : Int) < (fs.length : Int)) = false := decide_eq_false (by omega)
                have HPR := Lib.hid (show k + 1 ≤ M.1.length by omega)
                have HML := Lib.hid (show M.2.length ≤ 2 * roots.length + (k + 1) * 8194 by
                  rw [hlj]; simp only [List.length_append, List.length_cons, List.length_nil]; omega)
                have HMS := Lib.hid (show seenS S roots (k + 1) = M by rw [HSC.out, ← HMM.out, List.take_length])
                clear hs hsz hz1' hfi hij hpre HNX hlj
                go_upto_region 14 with fail
                refine region_quiet (by kernel_rfl) (by kernel_rfl) ?_
                repeat go_big_quiet_step ((go_at_call 26; exact Calls.quiet_of (HSZ.out _)))
                refine wpQuiet_nil ?_
                intro m1
                go_wp2_with fail
                go_roundg (S.L.length - (k + 1))
                case measure => omega
                case rel => exact ⟨k + 1, rfl, by rw [HMS.out]; exact HPR.out, by go_num, by rw [HMS.out]; exact HML.out, _, _, by rw [HMS.out]; exact HS.out.after ((Chg.refl [] wr).drewN m1)⟩
        · have hke : (seenS S roots k).1.length ≤ k := by omega
          have hdec : decide ((k : Int) < ((seenS S roots k).1.length : Int)) = false := decide_eq_false (by omega)
          have HSA := Lib.hid (seen_at S roots hke)
          have kO := cell_at hs.kO (o := 0) rfl
          clear hs
          go_wp2_with fail
          go_ret
          exact ⟨_, rfl, HS.out.chg, by rw [HSA.out]; exact HS.out.rowO⟩
end

end Go.Proofs.Ytleoedjjepkhgaa
