import Derived.Test.YtleoedjjepkhgaaMoved
/- The reference's Collect and Reach. -/
namespace Go.Proofs.Ytleoedjjepkhgaa
open Go.RowKit

section
variable {W w : World} {q nq : Nat} {S T : St} {lv olv : Value} {fv ofv : Nat → Value}

theorem RM.take (HQ : RM w q olv ofv S) (HN : RM w nq lv fv T) (hn : T.n = S.n) : RM ((w.setCell ⟨q, 1, none⟩ (.int .i64 ((T.up : Nat) : Int))).setCell ⟨q, 2, none⟩ lv) q lv fv T := by
  have h1 := heap_set (o := 1) HQ.a (.int .i64 ((T.up : Nat) : Int))
  have h2 := heap_set (o := 2) h1 lv
  refine ⟨?_, ?_, fun k hk => ?_, HN.dist, HN.ok, HN.blks⟩
  · rw [hn]
    exact h2
  · exact ownsRow_set (ownsRow_set HN.row (own_ne' HN.row HQ.a (by decide)) _) (own_ne' HN.row HQ.a (by decide)) _
  · exact ownsRow_set (ownsRow_set (HN.fvs k hk) (own_ne' (HN.fvs k hk) HQ.a (by decide)) _) (own_ne' (HN.fvs k hk) HQ.a (by decide)) _

set_option maxHeartbeats 4000000 in
set_option maxRecDepth 100000 in
theorem rcollect_am (HO : RM W q olv ofv S) (rv : Value) (roots : List Int) (hr : W.ownsRow 0 49 1 rv roots.length (words roots)) (hw : ∀ x ∈ roots, Wd x) (hrl : roots.length ≤ 1000000) :
    Calls Try.prog 59 #[.pointer (some ⟨q, 0, none⟩), rv] W fun e w' => ∃ ov lv fv, e = .returned ov ∧ RM w' q lv fv (S.coll roots) ∧ Chg [q] W w' ∧
      w'.ownsRow W.heap.size 49 1 ov roots.length (words (S.now roots)) ∧ (∀ k ∈ rfoot q lv fv (S.coll roots).L.length, k = q ∨ W.heap.size ≤ k) ∧ ∀ b, ov.ownBlock = some b → b ∉ rfoot q lv fv (S.coll roots).L.length := by
  obtain ⟨ra, rc, rfl⟩ := ownsRow_slice hr
  have HMV := Lib.hid (moved_am HO _ roots hr hw hrl)
  have HOO := Lib.hid HO
  clear hr HO
  go_enter Try.func59, Try.ntmps59
  go_wp2_with fail
  refine HMV.out.mono ?_
  rintro e w1 ⟨m, nq, gv, lv, fv, ov, rfl, hm, hor, hof⟩
  have HOFE := Lib.hid hof
  have km1 := cell_at hm.k (o := 1) (v := .pointer (some ⟨nq, 0, none⟩)) rfl
  have kn1 := hm.now.fields.2.1
  have kn2 := hm.now.fields.2.2
  have hq := (HOO.out.after hm.chg).a
  have kq1 := cell_at hq (o := 1) rfl
  have kq2 := cell_at hq (o := 2) rfl
  have zq1 := free_at hq 1
  have zq2 := free_at hq 2
  have hup : (moved S (S.reach roots)).up = 1 - S.up := rfl
  have hnq : nq ≠ q := by
    intro e
    have h1 := hm.fnow nq (by simp [rfoot])
    have h2 := lt_of_heap HOO.out.a
    omega
  have hmq : m ≠ q := row_ne hm.k hq (by decide)
  obtain ⟨oa, oc, hov⟩ := ownsRow_slice hor
  subst hov
  obtain ⟨la, lc, hlv⟩ := ownsRow_slice hm.now.row
  subst hlv
  have HM := Lib.hid hm
  have HOR := Lib.hid hor
  have HQ := Lib.hid hq
  clear hm hor hq
  go_wp2_with fail
  go_ret
  have hor := HOR.out
  refine ⟨_, _, fv, rfl, (HOO.out.after HM.out.chg).take HM.out.now rfl, ?_, ?_, ?_, ?_⟩
  · exact ((HM.out.chg.mono (by simp)).set _ (.inl (by simp))).set _ (.inl (by simp))
  · exact ownsRow_set (ownsRow_set hor (own_ne' hor HQ.out (by decide)) _) (own_ne' hor HQ.out (by decide)) _
  · intro k hk
    unfold rfoot at hk
    rw [List.mem_cons] at hk
    rcases hk with rfl | hk
    · exact .inl rfl
    · exact .inr (HM.out.fnow k (by unfold rfoot; exact List.mem_cons_of_mem _ hk))
  · intro b hb hk
    unfold rfoot at hk
    rw [List.mem_cons] at hk
    rcases hk with rfl | hk
    · have h1 := (hor.lt b hb).1
      have h2 := lt_of_heap HOO.out.a
      omega
    · exact HOFE.out b hb (by unfold rfoot; exact List.mem_cons_of_mem _ hk)

set_option maxHeartbeats 4000000 in
set_option maxRecDepth 100000 in
theorem rreach_am (HO : RM W q olv ofv S) (rv : Value) (roots : List Int) (hr : W.ownsRow 0 49 1 rv roots.length (words roots)) (hw : ∀ x ∈ roots, Wd x) (hrl : roots.length ≤ 1000000) :
    Calls Try.prog 58 #[.pointer (some ⟨q, 0, none⟩), rv] W fun e w' => ∃ v, e = .returned (.tuple #[.int .i64 ((S.cells roots : Nat) : Int), v]) ∧ Chg [] W w' ∧
      w'.ownsRow W.heap.size 49 1 v (S.reach roots).length (words (ptrs S (S.reach roots))) := by
  obtain ⟨ra, rc, rfl⟩ := ownsRow_slice hr
  have HMV := Lib.hid (moved_am HO _ roots hr hw hrl)
  have HO' := Lib.hid HO
  have HOO := HO'
  have hcnt := HO.count
  clear hr HO
  obtain ⟨G, hG⟩ : ∃ G, G = S.reach roots := ⟨_, rfl⟩
  have hcells : ((moved S G).top : Int) - ((moved S G).base : Int) = ((S.cells roots : Nat) : Int) := by
    have h : (moved S G).top = (moved S G).base + S.cells roots := by rw [hG]; exact coll_top S roots
    omega
  have hgg : Good S G := by rw [hG]; exact good_reach S roots
  rw [← hG] at HMV ⊢
  have HC := Lib.hid hcells
  have HGG := Lib.hid hgg
  have hgl := hgg.length_le
  have hnc : IntKind.i64.wrap ((S.cells roots : Nat) : Int) = ((S.cells roots : Nat) : Int) := by
    have h1 := HO'.out.ok.n3
    have h2 : S.cells roots ≤ S.n := by rw [show S.cells roots = span (G.map S.blk) by rw [hG]; rfl]; exact Nat.le_trans (good_span hgg) HO'.out.ok.fit
    exact IntWalk.i64_in _ (by omega)
  clear hG hcells hgg
  generalize ((S.cells roots : Nat) : Int) = nc at HC hnc ⊢
  go_enter Try.func58, Try.ntmps58
  go_wp2_with fail
  refine HMV.out.mono ?_
  rintro e w1 ⟨m, nq, gv, lv, fv, ov, rfl, hm, hor, _⟩
  obtain ⟨oa, oc, hov⟩ := ownsRow_slice hor
  subst hov
  obtain ⟨ga, gc, hgv⟩ := ownsRow_slice hm.gone
  subst hgv
  have HM := Lib.hid hm
  have hW1 := hm.chg.size
  clear hm hor
  obtain ⟨i0, hi, hz0, hz1, hz2⟩ := info_parts info_word
  go_wp2_with fail
  have hst0 : MV W (w1.alloc (.cells #[] 49)) m q nq S (moved S G) G (.slice ga G.length gc) lv fv ∧ (w1.alloc (.cells #[] 49)).ownsRow w1.heap.size 49 1 (.slice (some ⟨w1.heap.size, 0, none⟩) 0 0) 0 [] :=
    ⟨HM.out.after ((Chg.refl [] w1).alloc _), rfl, .inr ⟨w1.heap.size, 0, #[], rfl, Nat.le_refl _, heap_alloc_new _ _, Nat.le_refl _, by unfold maxLen; omega, rfl, rfl⟩⟩
  have HST0 := Lib.hid hst0
  have HLT := Lib.hid HM.out.now.lts
  have HB2 := Lib.hid (show w1.heap.size ≤ (w1.alloc (.cells #[] 49)).heap.size by rw [size_alloc]; omega)
  clear hst0 HM
  generalize w1.alloc (.cells #[] 49) = w2 at HST0 HB2 ⊢
  generalize w1.heap.size = b2 at HST0 HLT HB2 hW1 ⊢
  go_loopg [8, 9] G.length (fun gh v8 v9 wr => ∃ k va vc, gh = G.length - k ∧ k ≤ G.length ∧ v9 = .int .i64 ((k : Nat) : Int) ∧ v8 = .slice va k vc ∧ MV W wr m q nq S (moved S G) G (.slice ga G.length gc) lv fv ∧ wr.ownsRow b2 49 1 (.slice va k vc) k (words (ptrs S (G.take k))) ∧ b2 ≤ wr.heap.size)
  case atStart => exact ⟨0, _, _, rfl, Nat.zero_le _, rfl, rfl, HST0.out.1, HST0.out.2, HB2.out⟩
  case round =>
    clear HST0 HB2
    obtain ⟨k, va, vc, hgk, hk, rfl, rfl, hm, hor, hb2⟩ := hrel
    have km2 := cell_at hm.k (o := 2) (v := .slice ga G.length gc) rfl
    have km1 := cell_at hm.k (o := 1) (v := .pointer (some ⟨nq, 0, none⟩)) rfl
    by_cases hlt : k < G.length
    · have hdec : decide ((k : Int) < (G.length : Int)) = true := decide_eq_true (by omega)
      obtain ⟨i, hi2⟩ : ∃ i, G[k]? = some i := ⟨_, List.getElem?_eq_getElem hlt⟩
      have hil := HGG.out.lt i (List.mem_of_getElem? hi2)
      obtain ⟨gg, e1, kg⟩ : ∃ gg, ga = some ⟨gg, 0, none⟩ ∧ wr.cell? ⟨gg, k, none⟩ = some (.int .i64 ((i : Nat) : Int)) := by
        obtain ⟨gg, cap', hv, _, _, _, hc, _⟩ := ownsRow_shape hm.gone (by omega)
        simp only [Value.slice.injEq] at hv
        exact ⟨gg, hv.1, hc k _ (by unfold nats; simp [hi2])⟩
      subst e1
      have hold := HOO.out.after hm.chg
      obtain ⟨lg, lc, e2, klp⟩ : ∃ lg lc, olv = .slice (some ⟨lg, 0, none⟩) S.L.length lc ∧ wr.cell? ⟨lg, i * 3, none⟩ = some (.int .i64 ((S.pos i : Nat) : Int)) := by
        rcases hold.rows with ⟨_, h0⟩ | ⟨lg, lc, e, _, hr⟩
        · omega
        · exact ⟨lg, lc, e, (hr i hil).1⟩
      subst e2
      have kq2 := hold.fields.2.2
      have hpl : S.pos i + (S.blk i).fs.length ≤ 65536 := pos_le hold.ok hil
      have HP := Lib.hid (fun w => rPtr_any ((S.pos i : Nat) : Int) (by omega) (by omega) w)
      have hpt : ptrs S (G.take (k + 1)) = ptrs S (G.take k) ++ [2 * ((S.pos i : Nat) : Int)] := by
        unfold ptrs; rw [List.take_add_one, hi2, List.map_append]; rfl
      have HPT := Lib.hid hpt
      have HM := Lib.hid hm
      have HOR := Lib.hid hor
      have HW2 := Lib.hid hm.chg.size
      clear hm hor hold hpt hi2
      go_upto_region 6 with fail
      refine region_float_tail [0] [1, 2, 3, 4, 5, 6, 7, 8, 9, 10, 11, 12, 13, 14, 15] 16 (by kernel_rfl) (by kernel_rfl) (by intro _ _ d _ _ h; cases d <;> exact h) ?_
      simp only [List.cons_append, List.nil_append, List.filterMap_cons, List.filterMap_nil, List.getElem?_cons_zero, List.getElem?_cons_succ, List.drop_succ_cons, List.drop_zero]
      refine show wpQuiet _ _ _ _ [_, _, _, _, _, _, _, _, _, _, _, _, _, _, _, _] _ from ?_
      repeat go_big_quiet_step ((go_at_call 24; exact Calls.quiet_of_same (HP.out _)))
      refine wpQuiet_nil ?_
      intro m9
      have hor9 : (wr.drewN m9).ownsRow b2 49 1 (.slice va k vc) k (words (ptrs S (G.take k))) := ownsRow_chg HOR.out ((Chg.refl [] wr).drewN m9) (by simp)
      have HO9 := Lib.hid (hor9.alloc (.cells #[.int .u64 (2 * ((S.pos i : Nat) : Int))] 49))
      have HM9 := Lib.hid (HM.out.after ((Chg.refl [] wr).drewN m9))
      have HOR9 := Lib.hid hor9
      have hsz9 : b2 ≤ (wr.drewN m9).heap.size := hb2
      clear hor9
      generalize wr.drewN m9 = w9 at HO9 HM9 HOR9 hsz9 ⊢
      go_wp2_with (at_builtin; go_loud (refine wpList_append_own_at _ rfl _ _ 28 rfl b2 49 i0 (.int .u64 0) 1 8 Try.underlying28 hi hz0 hz1 hz2 rfl (by decide) _ _ _ rfl HO9.out ⟨w9.heap.size, 0, none⟩ 1 1 [.int .u64 (2 * ((S.pos i : Nat) : Int))] rfl rfl (cell_one_new _ _ _) (ints_oneCell .u64 [2 * ((S.pos i : Nat) : Int)]) (by unfold maxLen; omega) (by omega) (by simp; omega) ?_); intro v' w4 hown4 hgrow4 hnil hloc; have HO4 := Lib.hid hown4; have HG4 := Lib.hid (show (w9.alloc (.cells #[.int .u64 (2 * ((S.pos i : Nat) : Int))] 49)).grownBy w4 (Value.slice va k vc).ownBlock from hgrow4); obtain ⟨va', vc', hv'⟩ := ownsRow_slice hown4; clear hown4 hgrow4 hnil hloc; subst hv')
      go_roundg (G.length - (k + 1))
      case measure => omega
      case rel =>
        have hch4 : Chg (Value.slice va k vc).ownBlock.toList w9 w4 := ((Chg.refl _ w9).alloc _).grown HG4.out (fun k hk => .inl (by rw [hk]; simp))
        refine ⟨k + 1, va', vc', rfl, by omega, by go_num, rfl, ?_, ?_, Nat.le_trans hsz9 hch4.size⟩
        · refine HM9.out.other hch4 fun b hb => ?_
          obtain ⟨cs, fz, h⟩ := own_type HOR9.out b hb
          rw [Option.mem_toList] at hb
          have h1 := (HOR.out.lt b hb).1
          refine ⟨by omega, fun hin => ?_, cs, fz, h⟩
          have := HLT.out b hin
          omega
        · rw [HPT.out]
          have h := HO4.out
          unfold words at h ⊢
          rw [List.map_append]
          exact h
    · obtain rfl : k = G.length := by omega
      have hdec : decide ((G.length : Int) < (G.length : Int)) = false := decide_eq_false (by omega)
      rw [List.take_length] at hor
      have HRT := Lib.hid (fun n => rtop_am (hm.now.after ((Chg.refl [] wr).drewN n)))
      have HRB := Lib.hid (fun n => rbase_am (hm.now.after ((Chg.refl [] wr).drewN n)))
      have HM := Lib.hid hm
      have HOR := Lib.hid (own_low hor hW1)
      clear hm hor
      have hts : IntKind.i64.wrap (((moved S G).top : Int) - ((moved S G).base : Int)) = nc := by rw [HC.out]; exact hnc
      go_wp2_with fail
      refine region_quiet (by kernel_rfl) (by kernel_rfl) ?_
      repeat go_big_quiet_step ((first | (go_at_call 22; exact Calls.quiet_of (HRT.out _)) | (go_at_call 46; exact Calls.quiet_of (HRB.out _))))
      refine wpQuiet_nil ?_
      intro m9
      go_wp2_with fail
      try rw [Exit.noGoto_ret]
      change bodyPost Try.prog Try.f58 _ Exit.ret _ _
      go_ret2
      exact ⟨_, rfl, HM.out.chg.drewN m9, ownsRow_chg HOR.out ((Chg.refl [] wr).drewN m9) (by simp)⟩
end

end Go.Proofs.Ytleoedjjepkhgaa
