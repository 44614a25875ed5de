import Derived.Test.YtleoedjjepkhgaaGiven
import Derived.Test.YtleoedjjepkhgaaDoReal
import Derived.Test.YtleoedjjepkhgaaPlayW
/- The laws' same, sameErrs, sameNums, of two rows that are equal; real. -/
namespace Go.Proofs.Ytleoedjjepkhgaa
open Go.RowKit

theorem ints_get {xs : List Int} {k : Nat} (h : k < xs.length) : (ints xs)[k]? = some (.int .i64 (wat xs k)) := by
  unfold ints; rw [List.getElem?_map, wat_get h]; rfl

set_option maxHeartbeats 2000000 in
set_option maxRecDepth 100000 in
theorem same_words_am {w : World} {b1 b2 : Nat} {v1 v2 : Value} {xs : List Int} (h1 : w.ownsRow b1 49 1 v1 xs.length (words xs)) (h2 : w.ownsRow b2 49 1 v2 xs.length (words xs)) (hl : xs.length ≤ 9223372036854775807) :
    Calls Try.prog 19 #[v1, v2] w fun e w' => e = .returned (.bool true) ∧ ∃ n, w' = w.drewN n := by
  obtain ⟨a1, c1, rfl⟩ := ownsRow_slice h1
  obtain ⟨a2, c2, rfl⟩ := ownsRow_slice h2
  have H1 := Lib.hid h1
  have H2 := Lib.hid h2
  clear h1 h2
  have hd : ((xs.length : Int) != (xs.length : Int)) = false := bne_eq_false_iff_eq.2 rfl
  go_enter Try.func19, Try.ntmps19
  go_wp2_with fail
  go_loopg [13] xs.length (fun gh v wr => ∃ k : Nat, gh = xs.length - k ∧ k ≤ xs.length ∧ v = .int .i64 k ∧ ∃ n, wr = w.drewN n)
  case atStart => exact ⟨0, rfl, Nat.zero_le _, rfl, 0, rfl⟩
  case round =>
    obtain ⟨k, hgk, hk, rfl, n, rfl⟩ := hrel
    by_cases hlt : k < xs.length
    · have hdec : decide ((k : Int) < (xs.length : Int)) = true := decide_eq_true (by omega)
      obtain ⟨g1, rfl, q1⟩ := row_get H1.out (words_get hlt)
      obtain ⟨g2, rfl, q2⟩ := row_get H2.out (words_get hlt)
      have hne : (wat xs k != wat xs k) = false := bne_eq_false_iff_eq.2 rfl
      go_upto_region 6 with fail
      refine region_quiet_at (by kernel_rfl) (by kernel_rfl) ?_
      repeat go_big_quiet_step (fail)
      refine wpQuiet_nil ?_
      intro m
      go_wp2_with fail
      go_roundg (xs.length - (k + 1))
      case measure => omega
      case rel => exact ⟨k + 1, rfl, by omega, by go_num, m, rfl⟩
    · obtain rfl : k = xs.length := by omega
      have hdec : decide ((xs.length : Int) < (xs.length : Int)) = false := decide_eq_false (by omega)
      go_wp2_with fail
      go_ret
      exact ⟨rfl, n, rfl⟩

set_option maxHeartbeats 2000000 in
set_option maxRecDepth 100000 in
theorem sameErrs_am {w : World} {b1 b2 : Nat} {v1 v2 : Value} {xs : List Int} (h1 : w.ownsRow b1 46 1 v1 xs.length (ints xs)) (h2 : w.ownsRow b2 46 1 v2 xs.length (ints xs)) (hl : xs.length ≤ 9223372036854775807) :
    Calls Try.prog 11 #[v1, v2] w fun e w' => e = .returned (.bool true) ∧ ∃ n, w' = w.drewN n := by
  obtain ⟨a1, c1, rfl⟩ := ownsRow_slice h1
  obtain ⟨a2, c2, rfl⟩ := ownsRow_slice h2
  have H1 := Lib.hid h1
  have H2 := Lib.hid h2
  clear h1 h2
  have hd : ((xs.length : Int) != (xs.length : Int)) = false := bne_eq_false_iff_eq.2 rfl
  go_enter Try.func11, Try.ntmps11
  go_wp2_with fail
  go_loopg [13] xs.length (fun gh v wr => ∃ k : Nat, gh = xs.length - k ∧ k ≤ xs.length ∧ v = .int .i64 k ∧ ∃ n, wr = w.drewN n)
  case atStart => exact ⟨0, rfl, Nat.zero_le _, rfl, 0, rfl⟩
  case round =>
    obtain ⟨k, hgk, hk, rfl, n, rfl⟩ := hrel
    by_cases hlt : k < xs.length
    · have hdec : decide ((k : Int) < (xs.length : Int)) = true := decide_eq_true (by omega)
      obtain ⟨g1, rfl, q1⟩ := row_get H1.out (ints_get hlt)
      obtain ⟨g2, rfl, q2⟩ := row_get H2.out (ints_get hlt)
      have hne : (wat xs k != wat xs k) = false := bne_eq_false_iff_eq.2 rfl
      go_upto_region 6 with fail
      refine region_quiet_at (by kernel_rfl) (by kernel_rfl) ?_
      repeat go_big_quiet_step (fail)
      refine wpQuiet_nil ?_
      intro m
      go_wp2_with fail
      go_roundg (xs.length - (k + 1))
      case measure => omega
      case rel => exact ⟨k + 1, rfl, by omega, by go_num, m, rfl⟩
    · obtain rfl : k = xs.length := by omega
      have hdec : decide ((xs.length : Int) < (xs.length : Int)) = false := decide_eq_false (by omega)
      go_wp2_with fail
      go_ret
      exact ⟨rfl, n, rfl⟩

set_option maxHeartbeats 2000000 in
set_option maxRecDepth 100000 in
theorem sameNums_am {w : World} {b1 b2 : Nat} {v1 v2 : Value} {xs : List Int} (h1 : w.ownsRow b1 2 1 v1 xs.length (ints xs)) (h2 : w.ownsRow b2 2 1 v2 xs.length (ints xs)) (hl : xs.length ≤ 9223372036854775807) :
    Calls Try.prog 12 #[v1, v2] w fun e w' => e = .returned (.bool true) ∧ ∃ n, w' = w.drewN n := by
  obtain ⟨a1, c1, rfl⟩ := ownsRow_slice h1
  obtain ⟨a2, c2, rfl⟩ := ownsRow_slice h2
  have H1 := Lib.hid h1
  have H2 := Lib.hid h2
  clear h1 h2
  have hd : ((xs.length : Int) != (xs.length : Int)) = false := bne_eq_false_iff_eq.2 rfl
  go_enter Try.func12, Try.ntmps12
  go_wp2_with fail
  go_loopg [13] xs.length (fun gh v wr => ∃ k : Nat, gh = xs.length - k ∧ k ≤ xs.length ∧ v = .int .i64 k ∧ ∃ n, wr = w.drewN n)
  case atStart => exact ⟨0, rfl, Nat.zero_le _, rfl, 0, rfl⟩
  case round =>
    obtain ⟨k, hgk, hk, rfl, n, rfl⟩ := hrel
    by_cases hlt : k < xs.length
    · have hdec : decide ((k : Int) < (xs.length : Int)) = true := decide_eq_true (by omega)
      obtain ⟨g1, rfl, q1⟩ := row_get H1.out (ints_get hlt)
      obtain ⟨g2, rfl, q2⟩ := row_get H2.out (ints_get hlt)
      have hne : (wat xs k != wat xs k) = false := bne_eq_false_iff_eq.2 rfl
      go_upto_region 6 with fail
      refine region_quiet_at (by kernel_rfl) (by kernel_rfl) ?_
      repeat go_big_quiet_step (fail)
      refine wpQuiet_nil ?_
      intro m
      go_wp2_with fail
      go_roundg (xs.length - (k + 1))
      case measure => omega
      case rel => exact ⟨k + 1, rfl, by omega, by go_num, m, rfl⟩
    · obtain rfl : k = xs.length := by omega
      have hdec : decide ((xs.length : Int) < (xs.length : Int)) = false := decide_eq_false (by omega)
      go_wp2_with fail
      go_ret
      exact ⟨rfl, n, rfl⟩

set_option maxHeartbeats 1000000 in
set_option maxRecDepth 100000 in
theorem real_am {w : World} {M p : Nat} {k : Int} (H : MemAt w M p k) :
    Calls Try.prog 10 #[.pointer (some ⟨M, 0, none⟩)] w fun e w' =>
      e = .returned (.agg #[.func (.func 28) #[.pointer (some ⟨M, 0, none⟩)] #[], .func (.func 33) #[.pointer (some ⟨M, 0, none⟩)] #[], .func (.func 27) #[.pointer (some ⟨p, 0, none⟩)] #[],
        .func (.func 34) #[.pointer (some ⟨p, 0, none⟩)] #[], .func (.func 26) #[.pointer (some ⟨p, 0, none⟩)] #[]]) ∧ Chg [] w w' := by
  have HM := fun (w' : World) (hc : Chg [] w w') => marena_am (w := w') (M := M) (p := p) (k := k) (hc.get H (by simp))
  have HH := Lib.hid HM
  clear HM H
  go_enter Try.func10, Try.ntmps10
  go_wp2_with (go_at_call 14; refine (HH.out _ ((Chg.refl [] w).alloc _)).mono ?_; rintro e w' ⟨rfl, hw'⟩; obtain rfl := hw'.symm)
  exact bodyPost_ret (v := .agg #[.func (.func 28) #[.pointer (some ⟨M, 0, none⟩)] #[], .func (.func 33) #[.pointer (some ⟨M, 0, none⟩)] #[], .func (.func 27) #[.pointer (some ⟨p, 0, none⟩)] #[],
    .func (.func 34) #[.pointer (some ⟨p, 0, none⟩)] #[], .func (.func 26) #[.pointer (some ⟨p, 0, none⟩)] #[]]) (by simp [results, Try.results10, go_sem]) rfl ⟨rfl, (Chg.refl [] w).alloc _⟩

end Go.Proofs.Ytleoedjjepkhgaa
