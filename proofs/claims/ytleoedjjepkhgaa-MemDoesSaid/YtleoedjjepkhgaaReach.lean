import Derived.Test.YtleoedjjepkhgaaBread
import Derived.Deep.CutRange
import Derived.Deep.LoopGhost
/- copier.Reach. -/
namespace Go.Proofs.Ytleoedjjepkhgaa
open Go.RowKit

theorem own_low {w : World} {base base' : Nat} {e : TypeId} {size : Nat} {v : Value} {n : Nat} {xs : List Value} (H : w.ownsRow base e size v n xs) (h : base' ≤ base) : w.ownsRow base' e size v n xs := by
  rcases H.2 with h1 | ⟨g, cap, cur, h1, h2, h3⟩
  · exact ⟨H.1, .inl h1⟩
  · exact ⟨H.1, .inr ⟨g, cap, cur, h1, Nat.le_trans h h2, h3⟩⟩

theorem RS.after {W w w' : World} {p : Nat} {S : St} {bA bS bC bO ms : Nat} {ov : Value} {out : List Nat} (H : RS W w p S bA bS bC bO ms ov out) (h : Chg [] w w') : RS W w' p S bA bS bC bO ms ov out :=
  ⟨H.chg.trans h, h.get H.kA (by simp), h.get H.kS (by simp), h.get H.kC (by simp), h.get H.kO (by simp), H.seen.kept (h.block _ H.seen.lt (by simp)), ownsRow_chg H.row h (by simp), H.good, H.fS, H.fC, H.fO, H.fM⟩

/-- a row of its own stays where a word is met -/
theorem RS.stay {W w w' : World} {p : Nat} {S : St} {bA bS bC bO ms : Nat} {ov ov' : Value} {out : List Nat} (H : RS W w p S bA bS bC bO ms ov out) (hc : Chg (bC :: bO :: ms :: ov.ownBlock.toList) w w')
    (hl : ov'.ownBlock = ov.ownBlock ∨ ∃ b, ov'.ownBlock = some b ∧ w.heap.size ≤ b) {base : Nat} {v : Value} {n : Nat} {xs : List Value} (hr : w.ownsRow base 49 1 v n xs) (hs : ∀ b, ov.ownBlock = some b → v.ownBlock ≠ some b) :
    w'.ownsRow base 49 1 v n xs ∧ ∀ b, ov'.ownBlock = some b → v.ownBlock ≠ some b := by
  refine ⟨ownsRow_chg hr hc ?_, ?_⟩
  · intro k hk
    simp only [List.mem_cons, Option.mem_toList, not_or]
    refine ⟨?_, ?_, ?_, ?_⟩
    · rintro rfl; exact own_ne' hr H.kC (by decide) hk
    · rintro rfl; exact own_ne' hr H.kO (by decide) hk
    · rintro rfl
      rcases hr.2 with ⟨e1, _⟩ | ⟨g, cap, cur, e1, _, e3, _⟩
      · rw [e1] at hk; simp [Value.ownBlock] at hk
      · rw [e1] at hk
        have : g = k := by simpa [Value.ownBlock] using hk
        exact map_ne_cells H.seen e3 this
    · intro h; exact hs k h hk
  · intro b hb hv
    rcases hl with e | ⟨b', e, hge⟩
    · exact hs b (e ▸ hb) hv
    · rw [e] at hb
      cases hb
      have := (hr.lt b hv).2
      omega

theorem size_alloc (w : World) (o : Obj) : (w.alloc o).heap.size = w.heap.size + 1 := by
  show (w.heap.push o).size = _
  rw [Array.size_push]

theorem heap_at_new (w : World) (o : Obj) {k : Nat} (hk : k = w.heap.size) : (w.alloc o).heap[k]? = some o := by
  subst hk; exact heap_alloc_new w o

section
variable {W w : World} {p h c : Nat} {sv : Value} {cs : List Int} {S : St}

set_option maxHeartbeats 2000000 in
set_option maxRecDepth 100000 in
theorem reach_am (HA : AM W p h c sv cs S) (rv : Value) (roots : List Int) (hr : W.ownsRow 0 49 1 rv roots.length (words roots)) (hw : ∀ x ∈ roots, Wd x) (hrl : roots.length ≤ 1000000) :
    Calls Try.prog 16 #[.pointer (some ⟨p, 0, none⟩), rv] W fun e w' => ∃ v, e = .returned (.tuple #[.int .i64 ((S.cells roots : Nat) : Int), v]) ∧ Chg [] W w' ∧
      w'.ownsRow W.heap.size 49 1 v (S.reach roots).length (words (ptrs S (S.reach roots))) := by
  have hmm := @run_makeMap Try.prog
  obtain ⟨ra, rc, rfl⟩ := ownsRow_slice hr
  go_enter Try.func16, Try.ntmps16
  go_wp2
  go_step3
  go_wp2
  have rs0 : RS W (((((W.alloc (Obj.cells #[Value.pointer (some ⟨p, 0, none⟩)] 44)).alloc (Obj.cells #[Value.int .i64 0] 3)).alloc (Obj.cells #[Value.slice none 0 0] 28)).alloc (Obj.map #[] 0)).alloc (Obj.cells #[Value.map (some (W.heap.size + 1 + 1 + 1))] 85)) p S W.heap.size (W.heap.size + 1 + 1 + 1 + 1) (W.heap.size + 1) (W.heap.size + 1 + 1) (W.heap.size + 1 + 1 + 1) (.slice none 0 0) [] := by
    refine ⟨(((((Chg.refl [] W).alloc _).alloc _).alloc _).alloc _).alloc _, ?_, ?_, ?_, ?_, ?_, ?_, ⟨List.nodup_nil, by simp⟩, by omega, by omega, by omega, by omega⟩
    · iterate 4 rw [Below.heap_alloc _ _ _ (by simp only [size_alloc]; omega)]
      exact heap_alloc_new _ _
    · exact heap_at_new _ _ (by simp only [size_alloc])
    · iterate 3 rw [Below.heap_alloc _ _ _ (by simp only [size_alloc]; omega)]
      exact heap_at_new _ _ (by simp only [size_alloc])
    · iterate 2 rw [Below.heap_alloc _ _ _ (by simp only [size_alloc]; omega)]
      exact heap_at_new _ _ (by simp only [size_alloc])
    · have h1 := mapIs_new (((W.alloc (Obj.cells #[Value.pointer (some ⟨p, 0, none⟩)] 44)).alloc (Obj.cells #[Value.int .i64 0] 3)).alloc (Obj.cells #[Value.slice none 0 0] 28))
      have h2 : (fun _ => none) = seenAs S [] := by funext y; simp [seenAs, ptrs]
      rw [← h2]
      simp only [size_alloc] at h1
      exact MapIs.kept (b := W.heap.size + 1 + 1 + 1) h1 (Below.heap_alloc _ _ _ (by simp only [size_alloc]; omega))
    · exact ⟨rfl, .inl ⟨rfl, rfl⟩⟩
  have HR0 := Lib.hid rs0
  clear rs0
  generalize (((((W.alloc (Obj.cells #[Value.pointer (some ⟨p, 0, none⟩)] 44)).alloc (Obj.cells #[Value.int .i64 0] 3)).alloc (Obj.cells #[Value.slice none 0 0] 28)).alloc (Obj.map #[] 0)).alloc (Obj.cells #[Value.map (some (W.heap.size + 1 + 1 + 1))] 85)) = w0 at HR0 ⊢
  generalize W.heap.size + 1 + 1 + 1 + 1 = bS at HR0 ⊢
  generalize W.heap.size + 1 + 1 + 1 = ms at HR0 ⊢
  generalize W.heap.size + 1 + 1 = bO at HR0 ⊢
  generalize W.heap.size + 1 = bC at HR0 ⊢
  obtain ⟨bA, hbA⟩ : ∃ bA, bA = W.heap.size := ⟨_, rfl⟩
  rw [← hbA] at HR0 ⊢
  clear hbA hmm
  have HHR := Lib.hid hr
  clear hr
  go_loopw [20] (fun v wr => ∃ k : Nat, k ≤ roots.length ∧ v = .int .i64 k ∧ ∃ ov, RS W wr p S bA bS bC bO ms ov ((roots.take k).foldl (meet S) [])) (fun v _ => roots.length - (intOf v).toNat)
  case atStart => exact ⟨0, Nat.zero_le _, rfl, _, HR0.out⟩
  case round =>
    clear HR0
    obtain ⟨k, hk, rfl, ov, hm⟩ := hrel
    by_cases hlt : k < roots.length
    · have hdec : decide ((k : Int) < (roots.length : Int)) = true := decide_eq_true (by omega)
      have hrow := ownsRow_chg HHR.out hm.chg (by simp)
      obtain ⟨g, rfl, g1⟩ : ∃ g, ra = some ⟨g, 0, none⟩ ∧ wr.cell? ⟨g, k, none⟩ = some (.int .u64 (wat roots k)) := by
        rcases hrow.2 with ⟨h1, h2⟩ | ⟨g, cap, cur, h1, _, h3, _, _, h4, h5⟩
        · simp only [Value.slice.injEq] at h1; omega
        · simp only [Value.slice.injEq] at h1
          refine ⟨g, h1.1, cell_at h3 ?_⟩
          have h6 := words_get hlt
          rw [← h5, List.getElem?_take] at h6
          simpa [hlt] using h6
      have hwd := hw _ (wat_mem hlt)
      have hmt := Lib.hid (meet_am HA hm (wat roots k) hwd.1 hwd.2)
      have e : (roots.take (k + 1)).foldl (meet S) [] = meet S ((roots.take k).foldl (meet S) []) (wat roots k) := by
        rw [List.take_add_one, wat_get hlt, List.foldl_append]; rfl
      clear hm hrow HHR
      go_wp2_with (go_at_call 38; refine hmt.out.mono ?_; rintro e w' ⟨rfl, ov', hm', hch', hloc'⟩; have HM := Lib.hid hm'; clear hm' hch' hloc')
      go_roundw
      case rel => exact ⟨k + 1, by omega, by go_num, ov', by rw [e]; exact HM.out⟩
      case measure => simp [intOf]; omega
    · obtain rfl : k = roots.length := by omega
      have hdec : decide ((roots.length : Int) < (roots.length : Int)) = false := decide_eq_false (by omega)
      rw [List.take_length] at hm
      have HM := Lib.hid hm
      clear hm HHR
      go_wp2
      go_step3
      go_wp2
      go_loopg [12] S.L.length (fun gh v wr => ∃ k : Nat, gh = S.L.length - k ∧ k ≤ (outs S roots k).length ∧ v = .int .i64 k ∧ ∃ ov, RS W wr p S bA bS bC bO ms ov (outs S roots k))
      case atStart => exact ⟨0, rfl, Nat.zero_le _, rfl, _, HM.out⟩
      case round =>
        clear HM
        obtain ⟨k, hg, hk, rfl, ov, hm⟩ := hrel
        have hlen := (good_outs S roots k).length_le
        have hcnt := HA.count
        have kO := cell_at hm.kO (o := 0) rfl
        obtain ⟨oa, oc, rfl⟩ := ownsRow_slice hm.row
        by_cases hlt : k < (outs S roots k).length
        · have hdec : decide ((k : Int) = ((outs S roots k).length : Int)) = false := decide_eq_false (by omega)
          have HM := Lib.hid hm
          go_wp2
          obtain ⟨i, hi⟩ : ∃ i, (outs S roots k)[k]? = some i := ⟨_, List.getElem?_eq_getElem hlt⟩
          have hil : i < S.L.length := (good_outs S roots k).lt i (List.mem_of_getElem? hi)
          obtain ⟨g, rfl, gl, g1⟩ : ∃ g, oa = some ⟨g, 0, none⟩ ∧ g < wr.heap.size ∧ wr.cell? ⟨g, k, none⟩ = some (.int .u64 (2 * ((S.pos i : Nat) : Int))) := by
            rcases hm.row.2 with ⟨h1, h2⟩ | ⟨g, cap, cur, h1, _, h3, _, _, h4, h5⟩
            · simp only [Value.slice.injEq] at h1; omega
            · simp only [Value.slice.injEq] at h1
              refine ⟨g, h1.1, lt_of_heap h3, cell_at h3 ?_⟩
              have h6 : (words (ptrs S (outs S roots k)))[k]? = some (.int .u64 (2 * ((S.pos i : Nat) : Int))) := by
                simp [words, ptrs, hi]
              rw [← h5, List.getElem?_take] at h6
              simpa [hlt] using h6
          have kA := cell_at hm.kA (o := 0) rfl
          have hpl := pos_le HA.ok hil
          have lA := lt_of_heap hm.kA
          have lW := hm.chg.size
          have lO := lt_of_heap hm.kO
          have hrd : ∀ wz, Chg [] wr wz → Calls Try.prog 39 #[.pointer (some ⟨p, 0, none⟩), .int .u64 (2 * ((S.pos i : Nat) : Int))] wz fun e w' => ∃ a c, e = .returned (.agg #[.int .i64 (((S.blk i).tag : Nat) : Int), .slice a (S.blk i).fs.length c]) ∧ Chg [] wz w' ∧
              w'.ownsRow wr.heap.size 49 1 (.slice a (S.blk i).fs.length c) (S.blk i).fs.length (words (S.blk i).fs) := by
            intro wz hz
            refine (read_am (HA.chg (hm.chg.trans hz) (by simp)) (2 * ((S.pos i : Nat) : Int)) (by omega) (by omega) (q := (i, 0)) (find_ptr HA.ok hil)).mono ?_
            rintro e w' ⟨v, he, hc, hrow⟩
            obtain ⟨a, c, rfl⟩ := ownsRow_slice hrow
            exact ⟨a, c, he, hc, own_low hrow hz.size⟩
          have hA := Lib.hid (hrd wr.drew ((Chg.refl [] wr).drewN 1))
          have hB := hrd (wr.alloc (.cells #[.int .i64 0, .slice none 0 0] 87)).drew (((Chg.refl [] wr).alloc _).drewN 1)
          have hB := Lib.hid (hB.mono (R' := fun e w' => ∃ a c, e = .returned (.agg #[.int .i64 (((S.blk i).tag : Nat) : Int), .slice a (S.blk i).fs.length c]) ∧ Hid (Chg [] wr w') ∧
              Hid (w'.ownsRow wr.heap.size 49 1 (.slice a (S.blk i).fs.length c) (S.blk i).fs.length (words (S.blk i).fs)) ∧ Hid (w'.heap[wr.heap.size]? = some (.cells #[.int .i64 0, .slice none 0 0] 87 (0, 0))) ∧
              w'.cell? ⟨wr.heap.size, 0, none⟩ = some (.int .i64 0) ∧ w'.cell? ⟨wr.heap.size, 1, none⟩ = some (.slice none 0 0) ∧ w'.frozen? ⟨wr.heap.size, 0, none⟩ = false ∧ w'.frozen? ⟨wr.heap.size, 1, none⟩ = false) (by
            rintro e w' ⟨a, c, he, hc, hrow⟩
            have hk := hc.get (k := wr.heap.size) (heap_alloc_new wr _) (by simp)
            exact ⟨a, c, he, Lib.hid ((((Chg.refl [] wr).alloc _).drewN 1).trans hc), Lib.hid hrow, Lib.hid hk, cell_at hk rfl, cell_at hk rfl, free_at hk 0, free_at hk 1⟩))
          clear hrd hm
          go_cut [13] from 28 to 53 (fun v wx => ∃ bB a c, v = .pointer (some ⟨bB, 0, none⟩) ∧ wx.heap[bB]? = some (.cells #[.int .i64 (((S.blk i).tag : Nat) : Int), .slice a (S.blk i).fs.length c] 87 (0, 0)) ∧ W.heap.size ≤ bB ∧
            wx.ownsRow wr.heap.size 49 1 (.slice a (S.blk i).fs.length c) (S.blk i).fs.length (words (S.blk i).fs) ∧ Chg [] wr wx)
          case first =>
            go_region_with (go_at_call 39; first | (refine hA.out.mono ?_; rintro e w' ⟨a, c, rfl, hc, hrow⟩; have hc' := Lib.hid hc; have hrow' := Lib.hid hrow; clear hc hrow) | (refine hB.out.mono ?_; rintro e w' ⟨a, c, rfl, hc, hrow, hk, k0, k1, k2, k3⟩))
            all_goals (go_wp2; go_meet)
            all_goals first
              | exact ⟨w'.heap.size, a, c, rfl, heap_alloc_new w' _, Nat.le_trans lW hc'.out.size, hrow'.out.alloc _, (((Chg.refl [] wr).drewN 1).trans hc'.out).alloc _⟩
              | exact ⟨wr.heap.size, a, c, rfl, heap_set (heap_set hk.out _) _, lW, ownsRow_set (ownsRow_set hrow.out (own_ne' hrow.out hk.out (by decide)) _) (own_ne' hrow.out hk.out (by decide)) _, (hc.out.set _ (.inr (Nat.le_refl _))).set _ (.inr (Nat.le_refl _))⟩
          case rest =>
            obtain ⟨bB, a, c, rfl, hB1, hB2, hrow, hch⟩ := hcut
            have hrs := HM.out.after hch
            have hsep : ∀ b, (Value.slice (some ⟨g, 0, none⟩) (outs S roots k).length oc).ownBlock = some b → (Value.slice a (S.blk i).fs.length c).ownBlock ≠ some b := by
              intro b hb hv
              have e1 := (HM.out.row.lt b hb).2
              have e2 := (hrow.lt b hv).1
              omega
            have HSEP := Lib.hid hsep
            clear hsep
            have c0 := cell_at hB1 (o := 0) (v := .int .i64 (((S.blk i).tag : Nat) : Int)) rfl
            have c1 := cell_at hB1 (o := 1) (v := .slice a (S.blk i).fs.length c) rfl
            have hbo := HA.blkOk hil
            have hblk := HA.bounds hil
            have hsucc : outs S roots (k + 1) = (S.blk i).words.foldl (meet S) (outs S roots k) := by
              show (match (outs S roots k)[k]? with | none => outs S roots k | some i => (S.blk i).words.foldl (meet S) (outs S roots k)) = _
              rw [hi]
            have hpre := (prefix_outs_succ S roots k).length_le
            have hpk : k + 1 ≤ (outs S roots (k + 1)).length := by omega
            have HRS := Lib.hid hrs
            have HROW := Lib.hid hrow
            have HI := Lib.hid hi
            have HS := Lib.hid hsucc
            clear hrs hrow hi hsucc hB1 hA hB HM hch
            by_cases ht : (S.blk i).tag = 202
            · have hdt : decide ((((S.blk i).tag : Nat) : Int) = 202) = true := decide_eq_true (by omega)
              have hwn : (S.blk i).words = [] := by unfold Blk.words; rw [if_pos ht]
              rw [hwn] at HS
              go_wp2
              go_roundg (S.L.length - (k + 1))
              case measure => omega
              case rel =>
                refine ⟨k + 1, rfl, hpk, by go_num, .slice (some ⟨g, 0, none⟩) (outs S roots k).length oc, ?_⟩
                rw [HS.out]
                exact HRS.out
            · have hdt : decide ((((S.blk i).tag : Nat) : Int) = 202) = false := decide_eq_false (by omega)
              have hwn : (S.blk i).words = (S.blk i).fs := by unfold Blk.words; rw [if_neg ht]
              rw [hwn] at HS
              go_wp2
              generalize ((((S.blk i).tag : Nat) : Int) == 202) = bb
              generalize hfs : (S.blk i).fs = fs at *
              go_loopg [46] fs.length (fun gi v wr2 => ∃ j : Nat, gi = fs.length - j ∧ j ≤ fs.length ∧ v = .int .i64 j ∧ ∃ ov, RS W wr2 p S bA bS bC bO ms ov ((fs.take j).foldl (meet S) (outs S roots k)) ∧ wr2.ownsRow wr.heap.size 49 1 (.slice a fs.length c) fs.length (words fs) ∧ ∀ b, ov.ownBlock = some b → (Value.slice a fs.length c).ownBlock ≠ some b)
              case atStart => exact ⟨0, rfl, Nat.zero_le _, rfl, _, HRS.out, HROW.out, HSEP.out⟩
              case round =>
                clear HRS c0 c1
                obtain ⟨j, hgj, hj, rfl, ov2, hm2, hrow2, hsep2⟩ := hrel
                by_cases hlt2 : j < fs.length
                · have hdec2 : decide ((j : Int) < (fs.length : Int)) = true := decide_eq_true (by omega)
                  obtain ⟨g, rfl, g1⟩ : ∃ g, a = some ⟨g, 0, none⟩ ∧ wr.cell? ⟨g, j, none⟩ = some (.int .u64 (wat fs j)) := by
                    rcases hrow2.2 with ⟨h1, h2⟩ | ⟨g, cap, cur, h1, _, h3, _, _, h4, h5⟩
                    · simp only [Value.slice.injEq] at h1; omega
                    · simp only [Value.slice.injEq] at h1
                      refine ⟨g, h1.1, cell_at h3 ?_⟩
                      have h6 := words_get hlt2
                      rw [← h5, List.getElem?_take] at h6
                      simpa [hlt2] using h6
                  have hwd := hbo.words (wat fs j) (by rw [hfs]; exact wat_mem hlt2)
                  have hmt := Lib.hid (meet_am HA hm2 (wat fs j) hwd.1 hwd.2)
                  have hjl := hbo.size
                  have e : (fs.take (j + 1)).foldl (meet S) (outs S roots k) = meet S ((fs.take j).foldl (meet S) (outs S roots k)) (wat fs j) := by
                    rw [List.take_add_one, wat_get hlt2, List.foldl_append]; rfl
                  have HE := Lib.hid e
                  have HST := fun w' ov' hc hl => Lib.hid (hm2.stay (w' := w') (ov' := ov') hc hl hrow2 hsep2)
                  clear hm2 hrow2 HROW e hsep2 HSEP
                  go_wp2_with (go_at_call 38; refine hmt.out.mono ?_; rintro e w' ⟨rfl, ov', hm', hch', hloc'⟩; have HM3 := Lib.hid hm'; have HQ := HST w' ov' hch' hloc'; clear hm' hch' hloc')
                  go_roundg (fs.length - (j + 1))
                  case measure => omega
                  case rel => exact ⟨j + 1, rfl, by omega, by go_num, ov', by rw [HE.out]; exact HM3.out, HQ.out.1, HQ.out.2⟩
                · obtain rfl : j = fs.length := by omega
                  have hdec2 : decide ((fs.length : Int) < (fs.length : Int)) = false := decide_eq_false (by omega)
                  rw [List.take_length] at hm2
                  have HM3 := Lib.hid hm2
                  clear hm2 HROW hrow2 hsep2 HSEP
                  go_wp2
                  go_roundg (S.L.length - (k + 1))
                  case measure => omega
                  case rel =>
                    refine ⟨k + 1, rfl, hpk, by go_num, ov2, ?_⟩
                    rw [HS.out]
                    exact HM3.out
        · obtain hk2 : (outs S roots k).length = k := by omega
          have hreach := reach_of_stop S roots hk2
          have hdec : decide ((k : Int) = ((outs S roots k).length : Int)) = true := decide_eq_true (by omega)
          have kC := cell_at hm.kC (o := 0) rfl
          have e : cellsOf S (outs S roots k) = S.cells roots := by unfold St.cells; rw [hreach]
          have hrow := hm.row
          rw [← hreach] at hrow
          have hch := hm.chg
          rw [e] at kC
          have HROW := Lib.hid hrow
          have HCH := Lib.hid hch
          have HLEN := Lib.hid (show (S.reach roots).length = k by rw [hreach]; exact hk2)
          clear hm hrow hch hreach e
          go_wp2
          go_region
          all_goals
            go_wp2
            try rw [Exit.noGoto_ret]
            change bodyPost Try.prog Try.f16 _ Exit.ret _ _
            go_ret2
            refine ⟨_, rfl, HCH.out.drewN _, ?_⟩
            have h := HROW.out
            show wr.ownsRow W.heap.size 49 1 (.slice oa k oc) (S.reach roots).length (words (ptrs S (S.reach roots)))
            rw [HLEN.out] at h ⊢
            exact h
end

end Go.Proofs.Ytleoedjjepkhgaa
