import Derived.Test.YtkjggomkkfknhaaLay
/- The laws' equal, of two that are equal. -/
namespace Go.Proofs.Ytkjggomkkfknhaa
open Go.RowKit

section
variable {w : World}

set_option maxHeartbeats 2000000 in
set_option maxRecDepth 100000 in
theorem equal_am {b1 b2 : Nat} {v1 v2 : Value} {xs : List Int} (h1 : w.ownsRow b1 52 1 v1 xs.length (words xs)) (h2 : w.ownsRow b2 52 1 v2 xs.length (words xs)) (hl : xs.length ≤ 1000000) :
    Calls Try.prog 13 #[v1, v2] w fun e w' => e = .returned (.bool true) ∧ ∃ n, w' = w.drewN n := by
  obtain ⟨a1, c1, rfl⟩ := ownsRow_slice h1
  obtain ⟨a2, c2, rfl⟩ := ownsRow_slice h2
  have H1 := Lib.hid h1
  have H2 := Lib.hid h2
  clear h1 h2
  have hd : ((xs.length : Int) != (xs.length : Int)) = false := bne_eq_false_iff_eq.2 rfl
  go_enter Try.func13, Try.ntmps13
  go_wp2_with fail
  go_loopg [13] xs.length (fun gh v wr => ∃ k : Nat, gh = xs.length - k ∧ k ≤ xs.length ∧ v = .int .i64 k ∧ ∃ n, wr = w.drewN n)
  case atStart => exact ⟨0, rfl, Nat.zero_le _, rfl, 0, rfl⟩
  case round =>
    obtain ⟨k, hgk, hk, rfl, n, rfl⟩ := hrel
    by_cases hlt : k < xs.length
    · have hdec : decide ((k : Int) < (xs.length : Int)) = true := decide_eq_true (by omega)
      obtain ⟨g1, rfl, l1, q1⟩ := row_word H1.out hlt
      obtain ⟨g2, rfl, l2, q2⟩ := row_word H2.out hlt
      have hne : (wat xs k != wat xs k) = false := bne_eq_false_iff_eq.2 rfl
      go_upto_region 6 with fail
      refine region_quiet_at (by kernel_rfl) (by kernel_rfl) ?_
      repeat go_big_quiet_step (fail)
      refine wpQuiet_nil ?_
      intro m
      go_wp2_with fail
      go_roundg (xs.length - (k + 1))
      case measure => omega
      case rel => exact ⟨k + 1, rfl, by omega, by go_num, m, rfl⟩
    · obtain rfl : k = xs.length := by omega
      have hdec : decide ((xs.length : Int) < (xs.length : Int)) = false := decide_eq_false (by omega)
      go_wp2_with fail
      go_ret
      exact ⟨rfl, n, rfl⟩
end

end Go.Proofs.Ytkjggomkkfknhaa
