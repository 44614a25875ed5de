import Derived.Test.YtleoedjjepkhgaaWord
/- What the functions of the reference of layer 1 come to. -/
namespace Go.Proofs.Ytleoedjjepkhgaa
open Go.RowKit

theorem rIsInt_any (x : Int) (h0 : 0 ≤ x) (h1 : x < 18446744073709551616) (w : World) :
    Calls Try.prog 71 #[.int .u64 x] w fun e w' => e = .returned (.bool (isNum x)) ∧ w' = w := by
  go_enter Try.func71, Try.ntmps71
  go_wp2
  go_ret
  exact ⟨rfl, rfl⟩

theorem rPtr_any (a : Int) (h0 : 0 ≤ a) (h1 : a ≤ 2147483647) (w : World) :
    Calls Try.prog 24 #[.int .i64 a] w fun e w' => e = .returned (.int .u64 (2 * a)) ∧ w' = w := by
  go_enter Try.func24, Try.ntmps24
  go_wp2
  go_ret
  exact ⟨ret_i (by omega), rfl⟩

theorem rAddr_any (x : Int) (h0 : 0 ≤ x) (h1 : x < 18446744073709551616) (w : World) :
    Calls Try.prog 72 #[.int .u64 x] w fun e w' => e = .returned (.int .i64 (addr x : Nat)) ∧ w' = w := by
  by_cases hn : x % 2 = 1
  · have hz : ((addr x : Nat) : Int) = 0 := by unfold addr; rw [if_pos (.inl hn)]; rfl
    rw [hz]
    have hb : (x % 2 == 1) = true := by simpa using hn
    clear hn hz
    go_enter Try.func72, Try.ntmps72
    go_wp2
    go_ret
    exact ⟨rfl, rfl⟩
  · have hb : (x % 2 == 1) = false := by simpa using hn
    by_cases hc : 4294967294 < x
    · have hz : ((addr x : Nat) : Int) = 0 := by unfold addr; rw [if_pos (.inr (by omega))]; rfl
      rw [hz]
      clear hn hz
      go_enter Try.func72, Try.ntmps72
      go_wp2
      go_ret
      exact ⟨rfl, rfl⟩
    · have hz : ((addr x : Nat) : Int) = x / 2 := by unfold addr; rw [if_neg (by omega)]; omega
      rw [hz]
      clear hn hz
      go_enter Try.func72, Try.ntmps72
      go_wp2
      go_ret
      exact ⟨rfl, rfl⟩

/-- cut to 63 bits, as the reference does it -/
def cut63 (n : Int) : Int := if 4611686018427387903 < n then n - 9223372036854775808 else if n < -4611686018427387904 then n + 9223372036854775808 else n

theorem rCut_any (n : Int) (h0 : -9223372036854775808 ≤ n) (h1 : n ≤ 9223372036854775807) (w : World) :
    Calls Try.prog 55 #[.int .i64 n] w fun e w' => e = .returned (.int .i64 (cut63 n)) ∧ w' = w := by
  by_cases c1 : 4611686018427387903 < n
  · have hz : cut63 n = n - 9223372036854775808 := if_pos c1
    rw [hz]
    clear hz
    go_enter Try.func55, Try.ntmps55
    go_wp2
    go_ret
    exact ⟨ret_i (by omega), rfl⟩
  · by_cases c2 : n < -4611686018427387904
    · have hz : cut63 n = n + 9223372036854775808 := by unfold cut63; rw [if_neg c1, if_pos c2]
      rw [hz]
      clear hz
      go_enter Try.func55, Try.ntmps55
      go_wp2
      go_ret
      exact ⟨ret_i (by omega), rfl⟩
    · have hz : cut63 n = n := by unfold cut63; rw [if_neg c1, if_neg c2]
      rw [hz]
      clear hz
      go_enter Try.func55, Try.ntmps55
      go_wp2
      go_ret
      exact ⟨rfl, rfl⟩

theorem cut63_word (n : Int) (h0 : -9223372036854775808 ≤ n) (h1 : n ≤ 9223372036854775807) :
    -4611686018427387904 ≤ cut63 n ∧ cut63 n ≤ 4611686018427387903 ∧ (2 * cut63 n + 1) % 18446744073709551616 = numWord n := by
  unfold cut63 numWord w64
  split
  · omega
  · split <;> omega

theorem rInt_any (n : Int) (h0 : -9223372036854775808 ≤ n) (h1 : n ≤ 9223372036854775807) (w : World) :
    Calls Try.prog 32 #[.int .i64 n] w fun e w' => e = .returned (.int .u64 (numWord n)) ∧ w' = w := by
  obtain ⟨a, b, c⟩ := cut63_word n h0 h1
  rw [← c]
  clear c
  have hc := rCut_any n h0 h1
  generalize cut63 n = m at *
  by_cases hm : m < 0
  · go_enter Try.func32, Try.ntmps32
    go_wp2_with (go_at_call 55; refine (hc _).mono ?_; rintro e w' ⟨rfl, rfl⟩)
    go_ret
    refine ⟨ret_i ?_, rfl⟩
    simp only [IntKind.wrap_u64]
    omega
  · go_enter Try.func32, Try.ntmps32
    go_wp2_with (go_at_call 55; refine (hc _).mono ?_; rintro e w' ⟨rfl, rfl⟩)
    go_ret
    refine ⟨ret_i ?_, rfl⟩
    omega

theorem rInt_nat (n : Int) (h0 : 0 ≤ n) (h1 : n < 4611686018427387904) (w : World) :
    Calls Try.prog 32 #[.int .i64 n] w fun e w' => e = .returned (.int .u64 (2 * n + 1)) ∧ w' = w :=
  (rInt_any n (by omega) (by omega) w).mono fun e w' ⟨he, hw⟩ => ⟨he.trans (ret_i (by unfold numWord w64; omega)), hw⟩

theorem rHead_any (t s : Int) (h0 : 0 ≤ t) (h1 : t ≤ 255) (h2 : 0 ≤ s) (h3 : s ≤ 2147483647) (w : World) :
    Calls Try.prog 73 #[.int .i64 t, .int .i64 s] w fun e w' => e = .returned (.int .u64 (2 * (256 * s + t) + 1)) ∧ w' = w := by
  go_enter Try.func73, Try.ntmps73
  go_wp2_with (go_at_call 32; refine (rInt_nat _ (by omega) (by omega) _).mono ?_; rintro e w' ⟨rfl, rfl⟩)
  go_ret
  exact ⟨ret_i (by omega), rfl⟩

end Go.Proofs.Ytleoedjjepkhgaa
