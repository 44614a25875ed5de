import Derived.Test.YtleoedjjepkhgaaProg
import Derived.Test.YtleoedjjepkhgaaModel
import Derived.WalkKit
import Derived.WalkSpells
import Derived.WalkLawsBesides
import Derived.Lib.Hide
/- What the functions of package word and of its reference come to. -/
namespace Go.Proofs.Ytleoedjjepkhgaa
open Go.RowKit

theorem ret_i {k : IntKind} {a b : Int} (h : a = b) : Ending.returned (.int k a) = .returned (.int k b) := by rw [h]
theorem ret_b {a b : Bool} (h : a = b) : Ending.returned (.bool a) = .returned (.bool b) := by rw [h]
theorem ret_ii {k l : IntKind} {a b c d : Int} (h : a = b) (h' : c = d) : Ending.returned (.tuple #[.int k a, .int l c]) = .returned (.tuple #[.int k b, .int l d]) := by rw [h, h']

theorem wraps_u64 (n : Int) (h₀ : 0 ≤ n) (h₁ : n < 2 ^ 64) : IntKind.u64.wrap n = n := IntWalk.u64_in n (by omega)
theorem wraps_i64 (n : Int) (h₀ : 0 ≤ n) (h₁ : n < 2 ^ 63) : IntKind.i64.wrap n = n := IntWalk.i64_in n (by omega)

theorem u64_or_one (x : Int) (h0 : 0 ≤ x) (h1 : x < 18446744073709551616) (he : x % 2 = 0) : bits .or .u64 x 1 = x + 1 :=
  bits_join .u64 64 (by decide) wraps_u64 1 x 1 h0 (by omega) (by omega) (by omega) (by omega) (by omega)

theorem u64_and_one (x : Int) (h0 : 0 ≤ x) (h1 : x < 18446744073709551616) : bits .and .u64 x 1 = x % 2 :=
  bits_mask .u64 64 (by decide) wraps_u64 1 (by decide) x h0 (by omega)

theorem i64_or_256 (x y : Int) (h0 : 0 ≤ x) (h1 : x < 4294967296) (h2 : 0 ≤ y) (h3 : y < 256) : bits .or .i64 (x * 256) y = x * 256 + y :=
  bits_join .i64 63 (by decide) wraps_i64 8 (x * 256) y (by omega) (by omega) (by omega) (by omega) (by omega) (by omega)

theorem i64_and_255 (x : Int) (h0 : 0 ≤ x) (h1 : x < 9223372036854775808) : bits .and .i64 x 255 = x % 256 :=
  bits_mask .i64 63 (by decide) wraps_i64 8 (by decide) x h0 (by omega)

/-! ### package word -/

/-- word.Int: whatever the number. -/
theorem wInt_any (n : Int) (w : World) :
    Calls Try.prog 66 #[.int .i64 n] w fun e w' => e = .returned (.int .u64 (numWord n)) ∧ w' = w := by
  go_enter Try.func66, Try.ntmps66
  go_wp2
  go_ret
  refine ⟨ret_i ?_, rfl⟩
  simp only [IntKind.wrap_u64]
  rw [u64_or_one _ (by omega) (by omega) (by omega)]
  unfold numWord w64
  omega

theorem wInt_nat (n : Int) (h0 : 0 ≤ n) (h1 : n < 4611686018427387904) (w : World) :
    Calls Try.prog 66 #[.int .i64 n] w fun e w' => e = .returned (.int .u64 (2 * n + 1)) ∧ w' = w :=
  (wInt_any n w).mono fun e w' ⟨he, hw⟩ => ⟨he.trans (ret_i (by unfold numWord w64; omega)), hw⟩

theorem wIsInt_any (x : Int) (h0 : 0 ≤ x) (h1 : x < 18446744073709551616) (w : World) :
    Calls Try.prog 62 #[.int .u64 x] w fun e w' => e = .returned (.bool (isNum x)) ∧ w' = w := by
  go_enter Try.func62, Try.ntmps62
  go_wp2
  go_ret
  exact ⟨ret_b (by rw [u64_and_one x h0 h1]; rfl), rfl⟩

theorem num_eq (x : Int) (h0 : 0 ≤ x) (h1 : x < 18446744073709551616) : wrap64 x / 2 = num x := by
  unfold num wrap64
  split <;> omega

theorem wNum_any (x : Int) (h0 : 0 ≤ x) (h1 : x < 18446744073709551616) (w : World) :
    Calls Try.prog 76 #[.int .u64 x] w fun e w' => e = .returned (.int .i64 (num x)) ∧ w' = w := by
  go_enter Try.func76, Try.ntmps76
  go_wp2
  go_ret
  exact ⟨ret_i (num_eq x h0 h1), rfl⟩

theorem wPtr_any (a : Int) (h0 : 0 ≤ a) (h1 : a ≤ 2147483647) (w : World) :
    Calls Try.prog 47 #[.int .i64 a] w fun e w' => e = .returned (.int .u64 (2 * a)) ∧ w' = w := by
  go_enter Try.func47, Try.ntmps47
  go_wp2
  go_ret
  exact ⟨ret_i (by omega), rfl⟩

theorem wAddr_any (x : Int) (h0 : 0 ≤ x) (h1 : x < 18446744073709551616) (w : World) :
    Calls Try.prog 61 #[.int .u64 x] w fun e w' => e = .returned (.int .i64 (addr x : Nat)) ∧ w' = w := by
  by_cases hn : isNum x = true
  · have hz : ((addr x : Nat) : Int) = 0 := by unfold isNum at hn; unfold addr; rw [if_pos (.inl (by simpa using hn))]; rfl
    rw [hz]
    have H := Lib.hid hn
    clear hn hz
    go_enter Try.func61, Try.ntmps61
    go_wp2_with (go_at_call 62; refine (wIsInt_any x h0 h1 _).mono ?_; rintro e w' ⟨rfl, rfl⟩; rw [H.out])
    go_ret
    exact ⟨rfl, rfl⟩
  · replace hn : isNum x = false := by simpa using hn
    have H := Lib.hid hn
    by_cases hb : 2147483647 < x / 2
    · have hz : ((addr x : Nat) : Int) = 0 := by unfold addr; rw [if_pos (.inr (by omega))]; rfl
      rw [hz]
      clear hn hz
      go_enter Try.func61, Try.ntmps61
      go_wp2_with (go_at_call 62; refine (wIsInt_any x h0 h1 _).mono ?_; rintro e w' ⟨rfl, rfl⟩; rw [H.out])
      go_ret
      exact ⟨rfl, rfl⟩
    · have hz : ((addr x : Nat) : Int) = x / 2 := by unfold isNum at hn; unfold addr; rw [if_neg (by simp at hn; omega)]; omega
      rw [hz]
      clear hn hz
      go_enter Try.func61, Try.ntmps61
      go_wp2_with (go_at_call 62; refine (wIsInt_any x h0 h1 _).mono ?_; rintro e w' ⟨rfl, rfl⟩; rw [H.out])
      go_ret
      exact ⟨rfl, rfl⟩

theorem wHead_any (t s : Int) (h0 : 0 ≤ t) (h1 : t ≤ 255) (h2 : 0 ≤ s) (h3 : s ≤ 2147483647) (w : World) :
    Calls Try.prog 64 #[.int .i64 t, .int .i64 s] w fun e w' => e = .returned (.int .u64 (2 * (256 * s + t) + 1)) ∧ w' = w := by
  have hb := Lib.hid (i64_or_256 s t h2 (by omega) h0 (by omega))
  go_enter Try.func64, Try.ntmps64
  go_wp2_with (go_at_call 66; rw [hb.out]; refine (wInt_nat _ (by omega) (by omega) _).mono ?_; rintro e w' ⟨rfl, rfl⟩)
  go_ret
  exact ⟨ret_i (by omega), rfl⟩

/-- a header's number is one -/
theorem parts_num (t s : Int) (h0 : 0 ≤ t) (h1 : t ≤ 255) (h2 : 0 ≤ s) (h3 : s ≤ 2147483647) : num (2 * (256 * s + t) + 1) = 256 * s + t ∧ isNum (2 * (256 * s + t) + 1) = true := by
  unfold num isNum
  rw [if_pos (by omega)]
  refine ⟨by omega, ?_⟩
  simp

theorem wParts_any (t s : Int) (h0 : 0 ≤ t) (h1 : t ≤ 255) (h2 : 0 ≤ s) (h3 : s ≤ 2147483647) (w : World) :
    Calls Try.prog 65 #[.int .u64 (2 * (256 * s + t) + 1)] w fun e w' => e = .returned (.tuple #[.int .i64 t, .int .i64 s]) ∧ w' = w := by
  obtain ⟨e1, e2⟩ := parts_num t s h0 h1 h2 h3
  have H1 := Lib.hid e1
  have H2 := Lib.hid e2
  have hd : (256 * s + t) / 256 = s := by omega
  have hm := Lib.hid (i64_and_255 (256 * s + t) (by omega) (by omega))
  have HD := Lib.hid hd
  clear e1 e2 hd
  go_enter Try.func65, Try.ntmps65
  go_wp2_with (first | (go_at_call 76; refine (wNum_any _ (by omega) (by omega) _).mono ?_; rintro e w' ⟨rfl, rfl⟩; rw [H1.out]) | (go_at_call 62; refine (wIsInt_any _ (by omega) (by omega) _).mono ?_; rintro e w' ⟨rfl, rfl⟩; rw [H2.out]))
  go_ret2
  exact ⟨ret_ii (by rw [hm.out]; omega) HD.out, rfl⟩

theorem wTag_any (t s : Int) (h0 : 0 ≤ t) (h1 : t ≤ 255) (h2 : 0 ≤ s) (h3 : s ≤ 2147483647) (w : World) :
    Calls Try.prog 49 #[.int .u64 (2 * (256 * s + t) + 1)] w fun e w' => e = .returned (.int .i64 t) ∧ w' = w := by
  go_enter Try.func49, Try.ntmps49
  go_wp2_with (go_at_call 65; refine (wParts_any t s h0 h1 h2 h3 _).mono ?_; rintro e w' ⟨rfl, rfl⟩)
  go_ret
  exact ⟨rfl, rfl⟩

theorem wSize_any (t s : Int) (h0 : 0 ≤ t) (h1 : t ≤ 255) (h2 : 0 ≤ s) (h3 : s ≤ 2147483647) (w : World) :
    Calls Try.prog 50 #[.int .u64 (2 * (256 * s + t) + 1)] w fun e w' => e = .returned (.int .i64 s) ∧ w' = w := by
  go_enter Try.func50, Try.ntmps50
  go_wp2_with (go_at_call 65; refine (wParts_any t s h0 h1 h2 h3 _).mono ?_; rintro e w' ⟨rfl, rfl⟩)
  go_ret
  exact ⟨rfl, rfl⟩

end Go.Proofs.Ytleoedjjepkhgaa
