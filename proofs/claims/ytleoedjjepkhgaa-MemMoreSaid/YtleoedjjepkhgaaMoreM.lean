import Derived.Test.YtleoedjjepkhgaaMany
import Derived.LaidEqlPtr
import Derived.Deep.QuietTactic
import Derived.BigQuiet
/- MemMore. -/
namespace Go.Proofs.Ytleoedjjepkhgaa
open Go.RowKit

set_option maxHeartbeats 4000000 in
set_option maxRecDepth 100000 in
theorem moreLaw_am (W : World) (n z : Int) (A : Option Addr) (cap : Nat) (l : List Stp) (HG : GivenS W n A l) (HC : GivenC A cap l.length) (hz : 0 ≤ z ∧ z ≤ 65535) :
    Calls Try.prog 5 #[.int .i64 n, .int .u16 z, .slice A l.length cap] W fun e w' => e = .returned (.bool true) ∧ Chg [] W w' := by
  have HH := Lib.hid HG
  have HCC := Lib.hid HC
  have hlo := HG.lo
  have hhi := HG.hi
  have hll := HG.len
  have hcl := HC.le
  have hcm := HC.max
  have HAW := Lib.hid (awake_am W)
  clear HG HC
  obtain ⟨i0, hi, hz0, hz1, hz2⟩ := info_parts info_stp
  have hif : (if 80 < (l.length : Int) then (80 : Int) else (l.length : Int)) = ((min l.length 80 : Nat) : Int) := by split <;> omega
  by_cases hn : n < 2 ∨ 32768 < n
  · have HNO := Lib.hid (fun w => mnew_out n hn w)
    have hnn : decide (n < 2) = true ∨ (decide (n < 2) = false ∧ decide (32768 < n) = true) := by
      rcases hn with h | h
      · exact .inl (decide_eq_true h)
      · by_cases h2 : n < 2
        · exact .inl (decide_eq_true h2)
        · exact .inr ⟨decide_eq_false h2, decide_eq_true h⟩
    clear hn
    rcases hnn with q1 | ⟨q1, q2⟩
    all_goals
      go_enter Try.func5, Try.ntmps5
      go_wp2_with fail
      refine HAW.out.mono ?_
      rintro e w1 ⟨rfl, hc1⟩
      have HC1 := Lib.hid hc1
      clear hc1 HAW
      go_wp2_with fail
      refine (HNO.out _).mono ?_
      rintro e w2 ⟨rfl, hw⟩
      obtain rfl := hw.symm
      go_wp2_with fail
      go_ret
      exact ⟨rfl, HC1.out⟩
  · obtain ⟨m, rfl⟩ : ∃ m : Nat, n = (m : Int) := ⟨n.toNat, by omega⟩
    obtain ⟨z, rfl⟩ : ∃ y : Nat, z = (y : Int) := ⟨z.toNat, by omega⟩
    have hm1 : 2 ≤ m := by omega
    have hm2 : m ≤ 32768 := by omega
    have hd1 : decide ((m : Int) < 2) = false := decide_eq_false (by omega)
    have hd2 : decide (32768 < (m : Int)) = false := decide_eq_false (by omega)
    go_enter Try.func5, Try.ntmps5
    go_wp2_with fail
    refine HAW.out.mono ?_
    rintro e w1 ⟨rfl, hc1⟩
    have HC1 := Lib.hid hc1
    clear hc1 HAW
    go_upto_region 5 with fail
    go_cut [7] from 27 to 33 (fun v7 wx => ∃ a c, v7 = .slice a (min l.length 80) c ∧ Hid (OwnR W wx (.slice a (min l.length 80) c) (min l.length 80) (l.take 80)))
    case first =>
      cases A with
      | none =>
        obtain rfl : l = [] := List.eq_nil_of_length_eq_zero (HCC.out.nil rfl).1
        go_wp2_with fail
        go_meet
        exact ⟨_, _, rfl, Lib.hid ⟨HC1.out.alloc _, rfl, .inr ⟨w1.heap.size, 0, #[], rfl, HC1.out.size, heap_alloc_new w1 _, Nat.le_refl _, by unfold maxLen; omega, rfl, rfl⟩⟩⟩
      | some ad =>
        have hrd := HH.out.rd.keep HC1.out (F := []) (by simp) ((Chg.refl [] w1).alloc (.cells #[] 25))
        have hnews := Lib.hid (hrd.cells 80)
        have hnl := Lib.hid (show (stpCs (l.take 80)).length = (min l.length 80) * 4 by rw [stpCs_length, List.length_take, Nat.min_comm])
        have hone := Lib.hid (stpCs_one (l.take 80))
        have hown0 := Lib.hid (show (w1.alloc (.cells #[] 25)).ownsRow W.heap.size 25 4 (.slice (some ⟨w1.heap.size, 0, none⟩) 0 0) 0 [] from
          ⟨rfl, .inr ⟨w1.heap.size, 0, #[], rfl, HC1.out.size, heap_alloc_new w1 _, Nat.le_refl _, by unfold maxLen; omega, rfl, rfl⟩⟩)
        have hsz1 := HC1.out.size
        clear hrd
        go_wp2_with (at_builtin; go_loud (refine wpList_append_own_at _ rfl _ _ 22 rfl W.heap.size 25 i0 _ 4 32 Try.underlying22 hi hz0 hz1 hz2 rfl (by decide) _ 0 [] rfl hown0.out ad (min l.length 80) cap (stpCs (l.take 80)) rfl hnl.out hnews.out hone.out (by unfold maxLen; omega) (by omega) (by simp; omega) ?_); intro v' w4 hown4 hgrow4 hnil hloc; have HG4 := Lib.hid (And.intro hown4 (show (w1.alloc (.cells #[] 25)).grownBy w4 (some w1.heap.size) from hgrow4)); obtain ⟨va, vc, hv'⟩ := ownsRow_slice hown4; clear hown4 hgrow4 hnil hloc; subst hv')
        go_meet
        obtain ⟨hown4, hgrow4⟩ := HG4.out
        rw [Nat.zero_add, List.nil_append] at hown4
        exact ⟨_, _, rfl, Lib.hid ⟨(HC1.out.alloc _).grown hgrow4 (fun k hk => .inr (by have h := Option.some.inj hk; have := HC1.out.size; omega)), hown4⟩⟩
    case rest =>
      obtain ⟨a, c, rfl, HX⟩ := hcut
      obtain ⟨L0, hL0⟩ : ∃ L0, L0 = l.take 80 := ⟨_, rfl⟩
      have hlen : min l.length 80 = L0.length := by rw [hL0, List.length_take, Nat.min_comm]
      have hl80 : L0.length ≤ 80 := by rw [← hlen]; omega
      have HOK0 := Lib.hid (show ∀ s ∈ L0, s.ok by
        intro s hs
        rw [hL0] at hs
        obtain ⟨k, hk⟩ := List.mem_iff_getElem?.1 (List.mem_of_mem_take hs)
        have hkl := (List.getElem?_eq_some_iff.1 hk).1
        have := stpAt_get hkl
        rw [hk] at this
        cases this
        exact HH.out.ok k hkl)
      rw [← hL0, hlen] at HX
      rw [hlen]
      clear hL0 hlen hif hi hz0 hz1 hz2 HC1
      have HX0 := Lib.hid (show OwnR W wc (.slice a L0.length c) L0.length (ownK L0 0) by rw [ownK_zero]; exact HX.out)
      clear HX
      go_wp2_with fail
      go_loopg [36] L0.length (fun gh v36 wr => ∃ k : Nat, gh = L0.length - k ∧ k ≤ L0.length ∧ v36 = .int .i64 ((k : Nat) : Int) ∧ OwnR W wr (.slice a L0.length c) L0.length (ownK L0 k))
      case atStart => exact ⟨0, rfl, Nat.zero_le _, rfl, HX0.out⟩
      case round =>
        clear HX0
        obtain ⟨k, hgk, hk, rfl, hr⟩ := hrel
        by_cases hlt : k < L0.length
        · have hdec : decide ((k : Int) < (L0.length : Int)) = true := decide_eq_true (by omega)
          obtain ⟨g, rfl, hg, c0, c1, z1⟩ := hr.cells hlt
          have HR := Lib.hid hr
          by_cases s0 : (stpAt L0 k).kind = 0
          · have b0 : ((stpAt L0 k).kind == 0) = true := beq_iff_eq.2 s0
            by_cases s1 : (stpAt L0 k).a = 202
            · have b1 : ((stpAt L0 k).a == 202) = true := beq_iff_eq.2 s1
              have HT := Lib.hid (hr.turn hlt ⟨s0, s1⟩ hg)
              clear hr s0 s1
              go_wp2_with fail
              go_roundg (L0.length - (k + 1))
              case measure => omega
              case rel => exact ⟨k + 1, rfl, by omega, by go_num, HT.out⟩
            · have b1 : ((stpAt L0 k).a == 202) = false := beq_eq_false_iff_ne.2 s1
              have HS := Lib.hid (ownK_same hlt (fun h => s1 h.2))
              clear hr s0 s1
              go_wp2_with fail
              go_roundg (L0.length - (k + 1))
              case measure => omega
              case rel => exact ⟨k + 1, rfl, by omega, by go_num, by rw [HS.out]; exact HR.out⟩
          · have b0 : ((stpAt L0 k).kind == 0) = false := beq_eq_false_iff_ne.2 s0
            have HS := Lib.hid (ownK_same hlt (fun h => s0 h.1))
            clear hr s0
            go_wp2_with fail
            go_roundg (L0.length - (k + 1))
            case measure => omega
            case rel => exact ⟨k + 1, rfl, by omega, by go_num, by rw [HS.out]; exact HR.out⟩
        · obtain rfl : k = L0.length := by omega
          have hdec : decide ((L0.length : Int) < (L0.length : Int)) = false := decide_eq_false (by omega)
          obtain ⟨L, hL⟩ : ∃ L, L = L0.map fineS := ⟨_, rfl⟩
          have hLl : L.length = L0.length := by rw [hL, List.length_map]
          have HR := Lib.hid (show OwnR W wr (.slice a L.length c) L.length L by rw [hLl, hL, ← ownK_all]; exact hr)
          have HOK := Lib.hid (show ∀ s ∈ L, s.ok by
            intro s hs
            rw [hL] at hs
            obtain ⟨x, hx, rfl⟩ := List.mem_map.1 hs
            exact fineS_ok (HOK0.out x hx))
          have HFI := Lib.hid (show ∀ s ∈ L, s.fine by
            intro s hs
            rw [hL] at hs
            obtain ⟨x, hx, rfl⟩ := List.mem_map.1 hs
            exact fineS_fine x)
          have hLl80 : L.length ≤ 80 := by omega
          clear hr hL
          rw [← hLl]
          clear hLl
          have HM0 := Lib.hid (show Many W wr [] [ownRow a c L] from ⟨HR.out.1, by simp, .nil, fun r hr => by
            simp only [List.mem_cons, List.not_mem_nil, or_false] at hr
            subst hr
            exact ⟨HR.out.2, by simp⟩⟩)
          obtain ⟨n2, hn2⟩ : ∃ n2, n2 = min (m + z) 32768 := ⟨_, rfl⟩
          have hif2 : (if 32768 < (m : Int) + (z : Int) then (32768 : Int) else (m : Int) + (z : Int)) = (n2 : Int) := by split <;> omega
          have hn21 : 2 ≤ n2 := by omega
          have hn22 : n2 ≤ 32768 := by omega
          have hn2m : m ≤ n2 := by omega
          clear hn2
          go_wp2_with fail
          refine (mnew_ir m hm1 hm2 HM0.out).mono ?_
          rintro e w2 ⟨M1, p1, F1, rfl, hmm2⟩
          have HM2 := Lib.hid hmm2
          clear hmm2
          go_wp2_with fail
          refine (mnew_ir n2 hn21 hn22 HM2.out).mono ?_
          rintro e w3 ⟨M2, p2, F2, rfl, hmm3⟩
          have HM3 := Lib.hid (show Many W w3 [⟨IR M1 p1, F1, St.fresh m, 0⟩, ⟨IR M2 p2, F2, St.fresh n2, 0⟩] [ownRow a c L] from hmm3.swap)
          clear hmm3
          go_wp2_with fail
          refine (real_many HM3.out).mono ?_
          rintro e w5 ⟨rfl, hm5⟩
          have HM5 := Lib.hid hm5
          clear hm5
          go_wp2_with fail
          refine (play_many a c L HM5.out (by simp) HOK.out hLl80 false).mono ?_
          rintro e w6 ⟨ha1, hc1, ea1, ec1, G1, rfl, hm6, hld1⟩
          obtain ⟨P1, hP1⟩ : ∃ P1, P1 = (playP false (startP m) L).1 := ⟨_, rfl⟩
          obtain ⟨E1, hE1⟩ : ∃ E1, E1 = errsP false m L := ⟨_, rfl⟩
          rw [← hP1] at hm6 hld1
          rw [← hE1] at hm6
          have HM6 := Lib.hid hm6
          have HD1 := Lib.hid hld1
          have HP1 := Lib.hid hP1
          have HE1 := Lib.hid hE1
          clear hm6 hld1 hP1 hE1
          go_wp2_with fail
          refine (real_many HM6.out.swap).mono ?_
          rintro e w7 ⟨rfl, hm7⟩
          have HM7 := Lib.hid hm7
          clear hm7
          go_wp2_with fail
          refine (play_many a c L HM7.out (by simp) HOK.out hLl80 false).mono ?_
          rintro e w8 ⟨ha2, hc2, ea2, ec2, G2, rfl, hm8, hld2⟩
          obtain ⟨P2, hP2⟩ : ∃ P2, P2 = (playP false (startP n2) L).1 := ⟨_, rfl⟩
          obtain ⟨E2, hE2⟩ : ∃ E2, E2 = errsP false n2 L := ⟨_, rfl⟩
          rw [← hP2] at hm8 hld2
          rw [← hE2] at hm8
          have hE1l : E1.length = L.length := by rw [HE1.out]; exact errsP_length _ _ _
          have hE2l : E2.length = L.length := by rw [hE2]; exact errsP_length _ _ _
          have HM8 := Lib.hid hm8
          have HD2 := Lib.hid hld2
          have HP2 := Lib.hid hP2
          have HE2 := Lib.hid hE2
          have HL1 := Lib.hid hE1l
          have HL2 := Lib.hid hE2l
          have hd : ((L.length : Int) != (L.length : Int)) = false := bne_eq_false_iff_eq.2 rfl
          clear hm8 hld2 hP2 hE2 hE1l hE2l
          have HRO1 := Lib.hid (show w8.ownsRow W.heap.size 46 1 (.slice ea1 L.length ec1) L.length (ints E1) from (HM8.out.rows (errsRow ea1 ec1 E1 L.length) (by simp)).1)
          have HRO2 := Lib.hid (show w8.ownsRow W.heap.size 46 1 (.slice ea2 L.length ec2) L.length (ints E2) from (HM8.out.rows (errsRow ea2 ec2 E2 L.length) (by simp)).1)
          go_wp2_with fail
          go_loopg [93] L.length (fun gh v93 wr => ∃ k : Nat, gh = L.length - k ∧ k ≤ L.length ∧ v93 = .int .i64 ((k : Nat) : Int) ∧ Hid (∀ j, j < k → wat E1 j ≠ 10) ∧ ∃ d, wr = w8.drewN d)
          case atStart => exact ⟨0, rfl, Nat.zero_le _, rfl, Lib.hid (fun j hj => absurd hj (by omega)), 0, rfl⟩
          case round =>
            obtain ⟨k, hgk, hk, rfl, hno, d, rfl⟩ := hrel
            by_cases hlt : k < L.length
            · have hdec : decide ((k : Int) < (L.length : Int)) = true := decide_eq_true (by omega)
              obtain ⟨g1, rfl, ck1⟩ := row_get HRO1.out (ints_get (xs := E1) (k := k) (by rw [HL1.out]; exact hlt))
              obtain ⟨g2, rfl, ck2⟩ := row_get HRO2.out (ints_get (xs := E2) (k := k) (by rw [HL2.out]; exact hlt))
              by_cases he : wat E1 k = 10
              · have hb : (wat E1 k == 10) = true := beq_iff_eq.2 he
                clear he
                go_wp2_with fail
                try rw [Exit.noGoto_ret]
                go_ret
                exact ⟨rfl, HM8.out.chg.drewN d⟩
              · have hb : (wat E1 k == 10) = false := beq_eq_false_iff_ne.2 he
                have HNO := Lib.hid (show ∀ j, j < k + 1 → wat E1 j ≠ 10 by
                  intro j hj
                  by_cases e : j = k
                  · subst e; exact he
                  · exact hno.out j (by omega))
                have hEE : wat E2 k = wat E1 k := by
                  rw [HE2.out, HE1.out]
                  exact more_pre hm1 hn2m hn22 HFI.out hlt (fun j hj => by rw [← HE1.out]; exact HNO.out j (by omega))
                rw [hEE] at ck2
                have hne : (wat E1 k != wat E1 k) = false := bne_eq_false_iff_eq.2 rfl
                clear he hno hEE
                go_upto_region 25 with fail
                refine region_quiet_at (by kernel_rfl) (by kernel_rfl) ?_
                repeat go_big_quiet_step (fail)
                refine wpQuiet_nil ?_
                intro m'
                go_wp2_with fail
                go_roundg (L.length - (k + 1))
                case measure => omega
                case rel => exact ⟨k + 1, rfl, by omega, by go_num, HNO, m', rfl⟩
            · obtain rfl : k = L.length := by omega
              have hdec : decide ((L.length : Int) < (L.length : Int)) = false := decide_eq_false (by omega)
              have hall : ∀ e ∈ errsP false m L, e ≠ 10 := by
                intro e he
                rw [← HE1.out] at he
                obtain ⟨j, hj⟩ := List.mem_iff_getElem?.1 he
                have hjl := (List.getElem?_eq_some_iff.1 hj).1
                rw [HL1.out] at hjl
                have := hno.out j hjl
                have h2 := wat_get (xs := E1) (k := j) (by rw [HL1.out]; exact hjl)
                rw [hj] at h2
                rw [Option.some.inj h2]
                exact this
              have hms := more_same hm1 hn2m hn22 HFI.out hall
              have hS2 : P2.st.seen P2.held = P1.st.seen P1.held := by rw [HP1.out, HP2.out]; exact hms.2
              have HS2 := Lib.hid hS2
              have HM9 := Lib.hid (HM8.out.keep ((Chg.refl [] w8).drewN d))
              clear hms hall hno HRO1 HRO2 hS2
              generalize w8.drewN d = w9 at HM9 ⊢
              go_wp2_with fail
              refine (arena_many HM9.out.swap).mono ?_
              rintro e w' ⟨rfl, hw'⟩
              obtain rfl := hw'.symm
              go_wp2_with fail
              refine (seen_many ha1 hc1 HM9.out.swap (by simp) HD1.out).mono ?_
              rintro e w10 ⟨va1, vc1, rfl, hc10, hn10⟩
              have HM10 := Lib.hid (HM9.out.keep hc10)
              have HN10 := Lib.hid hn10
              clear hc10 hn10
              go_wp2_with fail
              refine (arena_many HM10.out).mono ?_
              rintro e w' ⟨rfl, hw'⟩
              obtain rfl := hw'.symm
              go_wp2_with fail
              refine (seen_many ha2 hc2 HM10.out (by simp) HD2.out).mono ?_
              rintro e w11 ⟨va2, vc2, rfl, hc11, hn11⟩
              rw [HS2.out] at hn11
              rw [HS2.out]
              have HM11 := Lib.hid (HM10.out.keep hc11)
              obtain ⟨N1, hN1⟩ : ∃ N1, N1 = P1.st.seen P1.held := ⟨_, rfl⟩
              have hn10 := ownsRow_chg HN10.out hc11 (by simp)
              rw [← hN1] at hn10 hn11
              rw [← hN1]
              have HSN := Lib.hid (sameNums_am hn10 hn11 (row_max hn10))
              clear hc11 hn11 hn10 HN10 hN1
              go_wp2_with fail
              refine HSN.out.mono ?_
              rintro e w12 ⟨rfl, n12, rfl⟩
              go_wp2_with fail
              try rw [Exit.noGoto_ret]
              go_ret
              exact ⟨rfl, HM11.out.chg.drewN n12⟩

end Go.Proofs.Ytleoedjjepkhgaa
