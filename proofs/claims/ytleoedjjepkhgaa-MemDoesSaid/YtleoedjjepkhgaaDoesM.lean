import Derived.Test.YtleoedjjepkhgaaPlayIn
import Derived.Test.YtleoedjjepkhgaaAwakeM
import Derived.LaidEqlPtr
import Derived.Deep.QuietTactic
import Derived.Deep.LoopGhost
import Derived.BigQuiet
/- MemDoes. -/
namespace Go.Proofs.Ytleoedjjepkhgaa
open Go.RowKit

set_option maxHeartbeats 4000000 in
set_option maxRecDepth 100000 in
theorem doesLaw_am (W : World) (n : Int) (A : Option Addr) (cap : Nat) (l : List Stp) (HG : GivenS W n A l) :
    Calls Try.prog 6 #[.int .i64 n, .slice A l.length cap] W fun e w' => e = .returned (.bool true) ∧ Chg [] W w' := by
  have HH := Lib.hid HG
  have hlo := HG.lo
  have hhi := HG.hi
  have hll := HG.len
  have HAW := Lib.hid (awake_am W)
  clear HG
  by_cases hn : n < 2 ∨ 32768 < n
  · have HNO := Lib.hid (fun w => mnew_out n hn w)
    have HRO := Lib.hid (fun w => rmnew_out n hn w)
    go_enter Try.func6, Try.ntmps6
    go_wp2_with fail
    refine HAW.out.mono ?_
    rintro e w1 ⟨rfl, hc1⟩
    have HC1 := Lib.hid hc1
    clear hc1 HAW
    go_wp2_with fail
    refine (HNO.out _).mono ?_
    rintro e w2 ⟨rfl, hw⟩
    obtain rfl := hw.symm
    go_wp2_with fail
    refine (HRO.out _).mono ?_
    rintro e w2 ⟨rfl, hw⟩
    obtain rfl := hw.symm
    go_wp2_with fail
    try rw [Exit.noGoto_ret]
    go_ret
    exact ⟨rfl, HC1.out⟩
  · obtain ⟨m, rfl⟩ : ∃ m : Nat, n = (m : Int) := ⟨n.toNat, by omega⟩
    have hm1 : 2 ≤ m := by omega
    have hm2 : m ≤ 32768 := by omega
    go_enter Try.func6, Try.ntmps6
    go_wp2_with fail
    refine HAW.out.mono ?_
    rintro e w1 ⟨rfl, hc1⟩
    have HM0 := Lib.hid (show Many W w1 [] [] from ⟨hc1, by simp, .nil, by simp⟩)
    clear hc1 HAW
    go_wp2_with fail
    refine (mnew_ir m hm1 hm2 HM0.out).mono ?_
    rintro e w2 ⟨M, p, F1, rfl, hmm2⟩
    have HM2 := Lib.hid hmm2
    clear hmm2
    go_wp2_with fail
    refine (mnew_im m hm1 hm2 HM2.out).mono ?_
    rintro e w3 ⟨K, q, F2, rfl, hmm3⟩
    have HM3 := Lib.hid hmm3.swap
    clear hmm3
    go_wp2_with fail
    refine (real_many' HM3.out).mono ?_
    rintro e w4 ⟨rfl, hm4⟩
    have HM4 := Lib.hid hm4
    clear hm4
    go_wp2_with fail
    refine (play_in (real_doer M p) (errsOut_real M p) A cap l HM4.out HH.out.rd HH.out.ok hll false).mono ?_
    rintro e w5 ⟨ha1, hc1, ea1, ec1, G1, rfl, hm5, hld1⟩
    obtain ⟨T, hT⟩ : ∃ T, T = plK false m l (min l.length 80) := ⟨_, rfl⟩
    obtain ⟨E, hE⟩ : ∃ E, E = erK false m l (min l.length 80) := ⟨_, rfl⟩
    rw [← hT] at hm5 hld1
    rw [← hE] at hm5
    have HM5 := Lib.hid hm5
    have HD := Lib.hid hld1
    have HT := Lib.hid hT
    have HE := Lib.hid hE
    clear hm5 hld1 hT hE
    go_wp2_with fail
    refine (model_many HM5.out.swap).mono ?_
    rintro e w6 ⟨rfl, hm6⟩
    have HM6 := Lib.hid hm6
    clear hm6
    go_wp2_with fail
    refine (play_in (model_doer K q) (errsOut_model K q) A cap l HM6.out HH.out.rd HH.out.ok hll false).mono ?_
    rintro e w8 ⟨ha2, hc2, ea2, ec2, G2, rfl, hm8, -⟩
    rw [← HT.out, ← HE.out] at hm8
    obtain ⟨S, hS⟩ : ∃ S, S = T.st := ⟨_, rfl⟩
    obtain ⟨ct, hct⟩ : ∃ ct, ct = T.count := ⟨_, rfl⟩
    obtain ⟨X, hX⟩ : ∃ X, X = min l.length 80 := ⟨_, rfl⟩
    rw [← hS, ← hct, ← hX] at hm8
    rw [← hX]
    have HX80 := Lib.hid (show X ≤ 80 by omega)
    have HM8 := Lib.hid hm8
    clear hm8 HT HE HH hS hct hX
    have hXl : E.length = X := by
      have := ((HM8.out.rows (errsRow ea1 ec1 E X) (by simp)).1).1
      simpa [errsRow, ints] using this
    obtain ⟨⟨lv, fv, hr8, hk8, _⟩, -, -⟩ := HM8.out.mems ⟨IM K q, G2, S, ct⟩ (by simp)
    obtain ⟨⟨h, c, sv, cs, ha8, hm8, _⟩, -, -⟩ := HM8.out.mems ⟨IR M p, G1, S, ct⟩ (by simp)
    obtain ⟨la, lc, hlv⟩ := ownsRow_slice hr8.row
    have f3 := hr8.fields.2.2
    rw [hlv] at f3
    have k0 := cell_at ha8.a (o := 0) (v := .pointer (some ⟨h, 0, none⟩)) rfl
    have kA := cell_at hk8 (o := 0) (v := .pointer (some ⟨q, 0, none⟩)) rfl
    have kC := cell_at hk8 (o := 1) (v := .int .i64 (ct : Int)) rfl
    have hbl : S.blocks.length = S.L.length := by unfold St.blocks St.starts; simp
    have HSW := Lib.hid (fun N => same_words_am (w := w8.drewN N) (v1 := .slice ha1 8 hc1) (v2 := .slice ha2 8 hc2) (xs := T.held) (by rw [HD.out.len]; exact ((HM8.out.keep ((Chg.refl [] w8).drewN N)).rows (heldRow ha1 hc1 T) (by simp)).1) (by rw [HD.out.len]; exact ((HM8.out.keep ((Chg.refl [] w8).drewN N)).rows (heldRow ha2 hc2 T) (by simp)).1) (by rw [HD.out.len]; omega))
    have HSE := Lib.hid (fun N => sameErrs_am (w := w8.drewN N) (v1 := .slice ea1 X ec1) (v2 := .slice ea2 X ec2) (xs := E) (by rw [hXl]; exact ((HM8.out.keep ((Chg.refl [] w8).drewN N)).rows (errsRow ea1 ec1 E X) (by simp)).1) (by rw [hXl]; exact ((HM8.out.keep ((Chg.refl [] w8).drewN N)).rows (errsRow ea2 ec2 E X) (by simp)).1) (by have := HX80.out; omega))
    have HCN := Lib.hid (fun N => mcount_am (w := w8.drewN N) (M := M) (p := p) (k := (ct : Int)) hm8)
    have HAR := Lib.hid (fun N => marena_am (w := w8.drewN N) (M := M) (p := p) (k := (ct : Int)) hm8)
    have HTP := Lib.hid (fun N => mtop_am (ha8.drewN N))
    have HRT := Lib.hid (fun N => rtop_am (hr8.drewN N))
    have HBL := Lib.hid (fun N => blocks_am (ha8.drewN N))
    have hn1 : ((S.L.length : Int) != (S.L.length : Int)) = false := bne_eq_false_iff_eq.2 rfl
    have hn2 : ((S.top : Int) != (S.top : Int)) = false := bne_eq_false_iff_eq.2 rfl
    have hn3 : ((ct : Int) != (ct : Int)) = false := bne_eq_false_iff_eq.2 rfl
    have HLV := Lib.hid hlv
    clear hXl ha8 hm8 hr8 hk8 hlv
    go_upto_region 9 with fail
    refine region_split (w := w8) (k := 0) 34 [38, 39, 40, 41, 42, 43, 44, 45] [34, 35, 36, 37, 46, 47] (by kernel_rfl) (by kernel_rfl) (by intro _ _ d _ _ h; cases d <;> exact h) ?_
    simp only [List.take_succ_cons, List.take_zero]
    repeat go_big_quiet_step ((first | (go_at_call 19; exact Calls.quiet_of (HSW.out _)) | (go_at_call 11; exact Calls.quiet_of (HSE.out _)) | (go_at_call 20; exact Calls.quiet_of_same (HCN.out _)) | (go_at_call 14; exact Calls.quiet_of_same (HAR.out _)) | (go_at_call 21; exact Calls.quiet_of_same (HTP.out _)) | (go_at_call 22; exact Calls.quiet_of (HRT.out _))))
    refine wpQuiet_nil ?_
    intro m'
    clear HSW HSE HCN HTP HRT kC k0 hn2 hn3
    refine show wpLoads _ _ _ _ [_, _, _, _, _, _, _, _] _ from ?_
    refine ⟨.pointer (some ⟨K, 0, none⟩), by first | rfl | kernel_rfl, ?_, ?_⟩
    · intro w' hk'
      clear hk'
      go_simp
    conv => arg 6; simp only [Act.put, List.setIfInBounds_toArray, List.set_cons_zero, List.set_cons_succ]
    refine ⟨.pointer (some ⟨K, 0, none⟩), by first | rfl | kernel_rfl, ?_, ?_⟩
    · intro w' hk'
      clear hk'
      go_simp
    conv => arg 6; simp only [Act.put, List.setIfInBounds_toArray, List.set_cons_zero, List.set_cons_succ]
    refine ⟨.pointer (some ⟨K, 0, none⟩), by first | rfl | kernel_rfl, ?_, ?_⟩
    · intro w' hk'
      clear hk'
      go_simp
    conv => arg 6; simp only [Act.put, List.setIfInBounds_toArray, List.set_cons_zero, List.set_cons_succ]
    refine ⟨.pointer (some ⟨q, 0, none⟩), by first | rfl | kernel_rfl, ?_, ?_⟩
    · intro w' hk'
      have k2 := hk' _ _ kA
      clear hk'
      go_simp
    conv => arg 6; simp only [Act.put, List.setIfInBounds_toArray, List.set_cons_zero, List.set_cons_succ]
    refine ⟨.pointer (some ⟨q, 0, none⟩), by first | rfl | kernel_rfl, ?_, ?_⟩
    · intro w' hk'
      clear hk'
      go_simp
    conv => arg 6; simp only [Act.put, List.setIfInBounds_toArray, List.set_cons_zero, List.set_cons_succ]
    refine ⟨.pointer (some ⟨q, 2, none⟩), by first | rfl | kernel_rfl, ?_, ?_⟩
    · intro w' hk'
      clear hk'
      go_simp
    conv => arg 6; simp only [Act.put, List.setIfInBounds_toArray, List.set_cons_zero, List.set_cons_succ]
    refine ⟨.slice la S.L.length lc, by first | rfl | kernel_rfl, ?_, ?_⟩
    · intro w' hk'
      have k2 := hk' _ _ f3
      clear hk'
      go_simp
    conv => arg 6; simp only [Act.put, List.setIfInBounds_toArray, List.set_cons_zero, List.set_cons_succ]
    refine ⟨.int .i64 (S.L.length : Int), by first | rfl | kernel_rfl, ?_, ?_⟩
    · intro w' hk'
      clear hk'
      go_simp
    conv => arg 6; simp only [Act.put, List.setIfInBounds_toArray, List.set_cons_zero, List.set_cons_succ]
    refine show wpRow _ _ _ _ [_, _, _, _, _, _] _ _ from ?_
    refine show wpList _ _ (postS _ _ (wpRow _ _ _ _ [_, _, _, _, _])) [_] _ _ from ?_
    go_wp2_with fail
    refine ⟨keeps_drewN w8 m', ?_⟩
    refine show wpList _ _ (postS _ _ (wpRow _ _ _ _ [_, _, _, _])) [_] _ _ from ?_
    go_wp2_with fail
    refine (HAR.out _).mono ?_
    rintro e w' ⟨rfl, hw'⟩
    obtain rfl := hw'.symm
    go_wp2_with fail
    refine ⟨keeps_drewN w8 m', ?_⟩
    refine show wpList _ _ (postS _ _ (wpRow _ _ _ _ [_, _, _])) [_] _ _ from ?_
    go_wp2_with fail
    refine (HBL.out _).mono ?_
    rintro e w9 ⟨bv, rfl, hc9, hb9⟩
    obtain ⟨ba, bc, rfl⟩ := ownsRow_slice hb9
    have hcc9 := ((Chg.refl [] w8).drewN m').trans hc9
    have HM9 := Lib.hid (HM8.out.keep hcc9)
    have hkp := chg_keeps hcc9
    rw [hbl]
    clear hb9 hc9 hcc9
    go_wp2_with fail
    refine ⟨hkp, ?_⟩
    refine show wpList _ _ (postS _ _ (wpRow _ _ _ _ [_, _])) [_] _ _ from ?_
    go_wp2_with fail
    refine ⟨hkp, ?_⟩
    refine show wpList _ _ (postS _ _ (wpRow _ _ _ _ [_])) [_] _ _ from ?_
    go_wp2_with fail
    refine ⟨hkp, ?_⟩
    refine show wpList _ _ (postS _ _ (wpRow _ _ _ _ [])) [_] _ _ from ?_
    go_wp2_with fail
    refine ⟨hkp, ?_⟩
    clear hkp HBL HAR kA f3 hn1 HLV
    unfold wpRow
    obtain ⟨⟨lv, fv, hr9, hk9, _⟩, -, -⟩ := HM9.out.mems ⟨IM K q, G2, S, ct⟩ (by simp)
    obtain ⟨⟨h, c, sv, cs, ha9, hm9, _⟩, -, -⟩ := HM9.out.mems ⟨IR M p, G1, S, ct⟩ (by simp)
    have HAR := Lib.hid (marena_am hm9)
    have HBL := Lib.hid (blocks_am ha9)
    clear hr9 hk9 ha9 hm9
    go_wp2_with fail
    refine HAR.out.mono ?_
    rintro e w' ⟨rfl, hw'⟩
    obtain rfl := hw'.symm
    go_wp2_with fail
    refine HBL.out.mono ?_
    rintro e w1 ⟨bv, rfl, hc1, hb1⟩
    obtain ⟨ba, bc, rfl⟩ := ownsRow_slice hb1
    have HM1 := Lib.hid (HM9.out.keep hc1)
    rw [hbl]
    have HB1 := Lib.hid hb1
    clear hc1 hb1 HBL HAR
    go_wp2_with fail
    obtain ⟨⟨lv1, fv1, hr1, hk1, _⟩, -, -⟩ := HM1.out.mems ⟨IM K q, G2, S, ct⟩ (by simp)
    obtain ⟨⟨h1, c1, sv1, cs1, ha1', hm1', _⟩, -, -⟩ := HM1.out.mems ⟨IR M p, G1, S, ct⟩ (by simp)
    obtain ⟨la1, lc1, hlv1⟩ := ownsRow_slice hr1.row
    have hcnt : S.L.length ≤ 32768 := ha1'.count
    have H1 := Lib.hid (show AM w1 p h1 c1 sv1 cs1 S ∧ RM w1 q lv1 fv1 S from And.intro ha1' hr1)
    have HAR := Lib.hid (fun N => marena_am (w := w1.drewN N) (M := M) (p := p) (k := (ct : Int)) hm1')
    have kA := cell_at hk1 (o := 0) (v := .pointer (some ⟨q, 0, none⟩)) rfl
    have HLV1 := Lib.hid hlv1
    clear hr1 hk1 ha1' hm1' hlv1
    go_loopg [101] S.L.length (fun gh v wr => ∃ k N : Nat, gh = S.L.length - k ∧ k ≤ S.L.length ∧ v = .int .i64 k ∧ wr = w1.drewN N)
    case atStart => exact ⟨0, 0, rfl, Nat.zero_le _, rfl, rfl⟩
    case round =>
      obtain ⟨k, N, hgk, hk, rfl, rfl⟩ := hrel
      by_cases hlt : k < S.L.length
      · have hdec : decide ((k : Int) < (S.L.length : Int)) = true := decide_eq_true (by omega)
        have hbk : wat S.blocks k = 2 * ((S.pos k : Nat) : Int) := by
          unfold wat St.blocks
          rw [List.getD_eq_getElem?_getD, List.getElem?_map]
          unfold St.starts
          simp [hlt]
        have hb1 := HB1.out
        rw [hbl] at hb1
        obtain ⟨gb, rfl, lb, cb⟩ := row_word hb1 hlt
        rw [hbk] at cb
        have hpl := pos_le H1.out.1.ok hlt
        obtain ⟨g2, hla, r1, r2, r3⟩ : ∃ g2, la1 = some ⟨g2, 0, none⟩ ∧ w1.cell? ⟨g2, k * 3, none⟩ = some (.int .i64 ((S.pos k : Nat) : Int)) ∧ w1.cell? ⟨g2, k * 3 + 1, none⟩ = some (.int .i64 (((S.blk k).tag : Nat) : Int)) ∧ w1.cell? ⟨g2, k * 3 + 2, none⟩ = some (fv1 k) := by
          rcases H1.out.2.rows with ⟨_, h0⟩ | ⟨g2, cap, e, _, hc⟩
          · omega
          · rw [HLV1.out] at e
            simp only [Value.slice.injEq] at e
            exact ⟨g2, e.1, (hc k hlt).1, (hc k hlt).2.1, (hc k hlt).2.2⟩
        subst hla
        have f3 := H1.out.2.fields.2.2
        rw [HLV1.out] at f3
        obtain ⟨fa, fc, hfv, hfr⟩ := H1.out.2.fieldRow hlt
        rw [hfv] at r3
        have hfp := find_ptr H1.out.1.ok hlt
        have hP := fun w => (rPtr_any ((S.pos k : Nat) : Int) (by omega) (by omega) w).mono (R' := fun e w' => e = .returned (.int .u64 (2 * ((S.pos k : Nat) : Int))) ∧ ∃ n, w' = w.drewN n) (fun e w' h => ⟨h.1, 0, h.2⟩)
        have hTg : ∀ N, Calls Try.prog 25 #[.pointer (some ⟨p, 0, none⟩), .int .u64 (2 * ((S.pos k : Nat) : Int))] (w1.drewN N) fun e w' => e = .returned (.int .i64 (((S.blk k).tag : Nat) : Int)) ∧ ∃ n, w' = (w1.drewN N).drewN n := by
          intro N
          have := tag_am (H1.out.1.drewN N) (2 * ((S.pos k : Nat) : Int)) (by omega) (by omega)
          unfold St.tagOf at this
          rw [hfp] at this
          exact this
        have hSz : ∀ N, Calls Try.prog 26 #[.pointer (some ⟨p, 0, none⟩), .int .u64 (2 * ((S.pos k : Nat) : Int))] (w1.drewN N) fun e w' => e = .returned (.int .i64 (((S.blk k).fs.length : Nat) : Int)) ∧ ∃ n, w' = (w1.drewN N).drewN n := by
          intro N
          have := size_am (H1.out.1.drewN N) (2 * ((S.pos k : Nat) : Int)) (by omega) (by omega)
          unfold St.sizeOf at this
          rw [hfp] at this
          exact this
        have HP := Lib.hid hP
        have HTG := Lib.hid hTg
        have HSZ := Lib.hid hSz
        have e1 : ((2 * ((S.pos k : Nat) : Int)) != (2 * ((S.pos k : Nat) : Int))) = false := bne_eq_false_iff_eq.2 rfl
        have e2 : ((((S.blk k).tag : Nat) : Int) != (((S.blk k).tag : Nat) : Int)) = false := bne_eq_false_iff_eq.2 rfl
        have e3 : ((((S.blk k).fs.length : Nat) : Int) != (((S.blk k).fs.length : Nat) : Int)) = false := bne_eq_false_iff_eq.2 rfl
        have HFR := Lib.hid hfr
        clear hfr hfv hfp hb1 hbk hP hTg hSz
        go_upto_region 14 with fail
        refine region_quiet_at (by kernel_rfl) (by kernel_rfl) ?_
        repeat go_big_quiet_step ((first | (go_at_call 24; exact Calls.quiet_of (HP.out _)) | (go_at_call 14; exact Calls.quiet_of_same (HAR.out _)) | (go_at_call 25; exact Calls.quiet_of (HTG.out _)) | (go_at_call 26; exact Calls.quiet_of (HSZ.out _))))
        refine wpQuiet_nil ?_
        intro m2
        clear HP HTG HSZ e2 e3
        have hGt : ∀ N (j : Nat), j < (S.blk k).fs.length → Calls Try.prog 27 #[.pointer (some ⟨p, 0, none⟩), .int .u64 (2 * ((S.pos k : Nat) : Int)), .int .i64 (j : Int)] (w1.drewN N) fun e w' => e = .returned (.tuple #[.int .u64 (wat (S.blk k).fs j), .int .i64 0]) ∧ ∃ n, w' = (w1.drewN N).drewN n := by
          intro N j hj
          have := get_am (H1.out.1.drewN N) (2 * ((S.pos k : Nat) : Int)) j (by omega) (by omega)
          unfold St.get at this
          rw [find_ptr H1.out.1.ok hlt] at this
          dsimp only at this
          rw [if_neg (by omega), Int.toNat_natCast] at this
          exact this
        have HGT := Lib.hid hGt
        have hsz := (H1.out.1.blkOk hlt).size
        clear hGt
        go_wp2_with fail
        go_loopg [169] (S.blk k).fs.length (fun gh v wr => ∃ j N : Nat, gh = (S.blk k).fs.length - j ∧ j ≤ (S.blk k).fs.length ∧ v = .int .i64 j ∧ wr = w1.drewN N)
        case atStart => exact ⟨0, _, rfl, Nat.zero_le _, rfl, rfl⟩
        case round =>
          obtain ⟨j, N2, hgj, hj, rfl, rfl⟩ := hrel
          by_cases hlt2 : j < (S.blk k).fs.length
          · have hdec2 : decide ((j : Int) < ((S.blk k).fs.length : Int)) = true := decide_eq_true (by omega)
            obtain ⟨g4, rfl, hc4⟩ : ∃ g4, fa = some ⟨g4, 0, none⟩ ∧ w1.cell? ⟨g4, j, none⟩ = some (.int .u64 (wat (S.blk k).fs j)) := by
              rcases HFR.out with ⟨_, h0⟩ | ⟨g4, e, hc⟩
              · omega
              · exact ⟨g4, e, hc j hlt2⟩
            have e4 : (wat (S.blk k).fs j != wat (S.blk k).fs j) = false := bne_eq_false_iff_eq.2 rfl
            have HG := Lib.hid (HGT.out N2 j hlt2)
            have HA2 := Lib.hid (HAR.out N2)
            go_wp2_with (first | (go_at_call 27; refine HG.out.mono ?_; rintro e w' ⟨rfl, ⟨m3, rfl⟩⟩) | (go_at_call 14; refine HA2.out.mono ?_; rintro e w' ⟨rfl, hw'⟩; obtain rfl := hw'.symm))
            go_roundg ((S.blk k).fs.length - (j + 1))
            case measure => omega
            case rel => exact ⟨j + 1, N2 + m3, rfl, by omega, by go_num, by simp⟩
          · obtain rfl : j = (S.blk k).fs.length := by omega
            have hdec2 : decide (((S.blk k).fs.length : Int) < ((S.blk k).fs.length : Int)) = false := decide_eq_false (by omega)
            go_wp2_with fail
            go_roundg (S.L.length - (k + 1))
            case measure => omega
            case rel => exact ⟨k + 1, N2, rfl, by omega, by go_num, rfl⟩
      · obtain rfl : k = S.L.length := by omega
        have hdec : decide ((S.L.length : Int) < (S.L.length : Int)) = false := decide_eq_false (by omega)
        go_wp2_with fail
        try rw [Exit.noGoto_ret]
        go_ret
        exact ⟨rfl, HM1.out.chg.drewN N⟩

end Go.Proofs.Ytleoedjjepkhgaa
