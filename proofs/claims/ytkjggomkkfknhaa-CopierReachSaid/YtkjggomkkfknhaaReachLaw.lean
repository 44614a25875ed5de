import Derived.Test.YtkjggomkkfknhaaFrees
import Derived.Test.YtkjggomkkfknhaaRefc
/- CopierReach. -/
namespace Go.Proofs.Ytkjggomkkfknhaa
open Go.RowKit

set_option maxHeartbeats 4000000 in
set_option maxRecDepth 100000 in
theorem reachLaw_am (W : World) (n : Int) (A : Option Addr) (cap : Nat) (L : List Bk) (HG : Given W n A L) (B : Option Addr) (cap2 : Nat) (l : List Int) (HW : GivenW W B l) :
    Calls Try.prog 4 #[.int .i64 n, .slice A L.length cap, .slice B l.length cap2] W fun e w' => e = .returned (.bool true) ∧ Chg [] W w' := by
  have HAW := Lib.hid (awake_am W)
  have H1 := Lib.hid HG
  have H2 := Lib.hid HW
  have hlo := HG.lo
  have hhi := HG.hi
  clear HG HW
  by_cases hn : n < 2 ∨ 32768 < n
  · have HLO := Lib.hid (fun w => lay_out (W := w) n hn (.slice A L.length cap))
    rcases hn with hn | hn
    · have hd : decide (n < 2) = true := decide_eq_true hn
      go_enter Try.func4, Try.ntmps4
      go_wp2_with (first | (go_at_call 9; refine HAW.out.mono ?_; rintro e w1 ⟨rfl, hc1⟩; have HC1 := Lib.hid hc1; clear hc1) | (go_at_call 10; refine (HLO.out _).mono ?_; rintro e w2 ⟨rfl, hc2⟩; have HC2 := Lib.hid hc2; clear hc2))
      go_ret
      exact ⟨rfl, HC1.out.trans HC2.out⟩
    · have hd : decide (n < 2) = false := decide_eq_false (by omega)
      have hd2 : decide (32768 < n) = true := decide_eq_true hn
      go_enter Try.func4, Try.ntmps4
      go_wp2_with (first | (go_at_call 9; refine HAW.out.mono ?_; rintro e w1 ⟨rfl, hc1⟩; have HC1 := Lib.hid hc1; clear hc1) | (go_at_call 10; refine (HLO.out _).mono ?_; rintro e w2 ⟨rfl, hc2⟩; have HC2 := Lib.hid hc2; clear hc2))
      go_ret
      exact ⟨rfl, HC1.out.trans HC2.out⟩
  · obtain ⟨m, rfl⟩ : ∃ m : Nat, n = (m : Int) := ⟨n.toNat, by omega⟩
    go_enter Try.func4, Try.ntmps4
    go_wp2_with fail
    refine HAW.out.mono ?_
    rintro e w1 ⟨rfl, hc1⟩
    have HC1 := Lib.hid hc1
    have HLI := Lib.hid (lay_in (W := w1) m (by omega) (by omega) A cap L (H1.out.rd.keep hc1) H1.out.ok)
    clear hc1
    go_wp2_with fail
    refine HLI.out.mono ?_
    rintro e w2 ⟨p, q, rfl, htw⟩
    obtain ⟨h, c, sv, cs, lv, fv, hm, hrm, _, _, _⟩ := htw.ex
    have HC2 := Lib.hid (HC1.out.trans htw.chg)
    generalize layS m L = S at hm hrm
    have HM := Lib.hid hm
    have HR := Lib.hid hrm
    have HWS := Lib.hid (words_am hm B cap2 l (H2.out.rd.keep HC2.out) H2.out.wds H2.out.len)
    clear htw hm hrm
    go_wp2_with fail
    refine HWS.out.mono ?_
    rintro e w3 ⟨ov, rfl, hc3, hown⟩
    obtain ⟨oa, oc, rfl⟩ := ownsRow_slice hown
    have hm3 := HM.out.chg hc3 (by simp)
    have HR3 := Lib.hid (HR.out.after hc3)
    have HC3 := Lib.hid (HC2.out.trans hc3)
    have hlw := lawWords_wd HM.out.ok H2.out.wds
    have hll := lawWords_len S l
    generalize lawWords S l = own at hown hlw hll
    have HRE := Lib.hid (reach_am hm3 _ own (own_low hown (Nat.zero_le _)) hlw (by omega))
    have HM3 := Lib.hid hm3
    have HO3 := Lib.hid (own_low hown (Nat.zero_le _))
    have HLW := Lib.hid hlw
    clear hc3 hown hm3 hlw HWS HM HR
    go_wp2_with fail
    refine HRE.out.mono ?_
    rintro e w4 ⟨xv, rfl, hc4, hx4⟩
    obtain ⟨xa, xc, rfl⟩ := ownsRow_slice hx4
    have HM4 := Lib.hid (HM3.out.chg hc4 (by simp))
    have HR4 := Lib.hid (HR3.out.after hc4)
    have HC4 := Lib.hid (HC3.out.trans hc4)
    have HX4 := Lib.hid hx4
    have HRR := Lib.hid (rreach_am HR4.out _ own (ownsRow_chg HO3.out hc4 (by simp)) HLW.out (by omega))
    clear hc4 hx4 HRE HM3 HR3 HO3
    go_wp2_with fail
    refine HRR.out.mono ?_
    rintro e w5 ⟨yv, rfl, hc5, hy5⟩
    obtain ⟨ya, yc, rfl⟩ := ownsRow_slice hy5
    have HM5 := Lib.hid (HM4.out.chg hc5 (by simp))
    have HR5 := Lib.hid (HR4.out.after hc5)
    have HC5 := Lib.hid (HC4.out.trans hc5)
    have hx5 := ownsRow_chg HX4.out hc5 (by simp)
    have hpl : (ptrs S (S.reach own)).length = (S.reach own).length := by simp [ptrs]
    have hrl : (S.reach own).length ≤ 1000000 := by have h5 := (good_reach S own).length_le; have h6 := HM5.out.count; omega
    generalize ptrs S (S.reach own) = xs at hx5 hy5 hpl
    generalize (S.reach own).length = nn at hx5 hy5 hpl hrl ⊢
    subst hpl
    have HEQ := Lib.hid (equal_am hx5 hy5 hrl)
    have HSM := Lib.hid (fun n => same_am (HM5.out.chg ((Chg.refl [] w5).drewN n) (by simp)) (HR5.out.after ((Chg.refl [] w5).drewN n)))
    have e1 : (((S.cells own : Nat) : Int) == ((S.cells own : Nat) : Int)) = true := beq_self_eq_true _
    clear hc5 hx5 hy5 hrl HRR HM4 HR4
    go_wp2_with (first | (go_at_call 13; refine HEQ.out.mono ?_; rintro e w6 ⟨rfl, ⟨n6, rfl⟩⟩) | (go_at_call 15; refine (HSM.out _).mono ?_; rintro e w7 ⟨rfl, hc7⟩; have HC7 := Lib.hid hc7; clear hc7))
    go_ret
    exact ⟨rfl, (HC5.out.drewN n6).trans HC7.out⟩

end Go.Proofs.Ytkjggomkkfknhaa
