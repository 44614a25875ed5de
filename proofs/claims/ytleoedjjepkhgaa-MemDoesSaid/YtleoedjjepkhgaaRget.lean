import Derived.Test.YtleoedjjepkhgaaRset
/- The reference's Get and Size. -/
namespace Go.Proofs.Ytleoedjjepkhgaa
open Go.RowKit

section
variable {w : World} {q : Nat} {lv : Value} {fv : Nat → Value} {S : St}

set_option maxHeartbeats 2000000 in
set_option maxRecDepth 100000 in
theorem rsize_am (H : RM w q lv fv S) (x : Int) (h0 : 0 ≤ x) (h1 : x < 18446744073709551616) :
    Calls Try.prog 45 #[.pointer (some ⟨q, 0, none⟩), .int .u64 x] w fun e w' => e = .returned (.int .i64 (S.sizeOf x)) ∧ ∃ n, w' = w.drewN n := by
  have hf := rfind_am H x h0 h1
  obtain ⟨f1, f2, f3⟩ := H.fields
  have hcnt := H.count
  unfold St.rfnd at hf
  unfold St.sizeOf
  clear f1 f2
  cases hx : S.find x with
  | none =>
    rw [hx] at hf
    clear f3
    go_enter Try.func45, Try.ntmps45
    go_wp2_with (go_at_call 60; refine hf.mono ?_; rintro e w' ⟨rfl, ⟨n, rfl⟩⟩)
    go_ret
    exact ⟨rfl, _, rfl⟩
  | some p =>
    rw [hx] at hf
    have hlt := find_lt hx
    dsimp only at hf ⊢
    rcases H.rows with ⟨_, hL⟩ | ⟨g, cap, hlv, hcap, hg⟩
    · omega
    obtain ⟨_, _, c3⟩ := hg p.1 hlt
    obtain ⟨fa, fc, hfv, hfr⟩ := H.fieldRow hlt
    rw [hfv] at c3
    rw [hlv] at f3
    clear hg hfv hfr
    go_enter Try.func45, Try.ntmps45
    go_wp2_with (go_at_call 60; refine hf.mono ?_; rintro e w' ⟨rfl, ⟨n, rfl⟩⟩)
    go_ret
    exact ⟨rfl, _, rfl⟩

set_option maxHeartbeats 2000000 in
set_option maxRecDepth 100000 in
theorem rget_am (H : RM w q lv fv S) (x i : Int) (h0 : 0 ≤ x) (h1 : x < 18446744073709551616) :
    Calls Try.prog 43 #[.pointer (some ⟨q, 0, none⟩), .int .u64 x, .int .i64 i] w fun e w' => e = .returned (.tuple #[.int .u64 (S.get x i).1, .int .i64 (S.get x i).2]) ∧ ∃ n, w' = w.drewN n := by
  have hf := rfind_am H x h0 h1
  obtain ⟨f1, f2, f3⟩ := H.fields
  have hcnt := H.count
  unfold St.rfnd at hf
  unfold St.get
  clear f1 f2
  cases hx : S.find x with
  | none =>
    rw [hx] at hf
    clear f3
    go_enter Try.func43, Try.ntmps43
    go_wp2_with (go_at_call 60; refine hf.mono ?_; rintro e w' ⟨rfl, ⟨n, rfl⟩⟩)
    go_ret2
    exact ⟨rfl, _, rfl⟩
  | some p =>
    rw [hx] at hf
    have hlt := find_lt hx
    dsimp only at hf ⊢
    rcases H.rows with ⟨_, hL⟩ | ⟨g, cap, hlv, hcap, hg⟩
    · omega
    obtain ⟨_, _, c3⟩ := hg p.1 hlt
    obtain ⟨fa, fc, hfv, hfr⟩ := H.fieldRow hlt
    have hbo := H.blks _ (List.mem_of_getElem? (blk_get hlt))
    have hsz := hbo.size
    rw [hfv] at c3
    rw [hlv] at f3
    clear hg
    by_cases k1 : i < 0
    · rw [if_pos (.inl k1)]
      have q1 : decide (i < 0) = true := decide_eq_true k1
      clear hfv hbo hfr
      go_enter Try.func43, Try.ntmps43
      go_wp2_with (go_at_call 60; refine hf.mono ?_; rintro e w' ⟨rfl, ⟨n, rfl⟩⟩)
      go_ret2
      exact ⟨rfl, _, rfl⟩
    · have q1 : decide (i < 0) = false := decide_eq_false k1
      by_cases k2 : (((S.blk p.1).fs.length : Nat) : Int) ≤ i
      · rw [if_pos (.inr k2)]
        clear hfv hbo hfr
        go_enter Try.func43, Try.ntmps43
        go_wp2_with (go_at_call 60; refine hf.mono ?_; rintro e w' ⟨rfl, ⟨n, rfl⟩⟩)
        go_ret2
        exact ⟨rfl, _, rfl⟩
      · rw [if_neg (by omega)]
        obtain ⟨j, rfl⟩ := Int.eq_ofNat_of_zero_le (show 0 ≤ i by omega)
        rw [Int.toNat_natCast]
        have hj : j < (S.blk p.1).fs.length := by omega
        rcases hfr with ⟨_, h⟩ | ⟨fg, rfl, hcells⟩
        · omega
        have q2 : decide ((((S.blk p.1).fs.length : Nat) : Int) ≤ (j : Int)) = false := decide_eq_false (by omega)
        have hcj := hcells j hj
        clear hfv hbo hcells
        go_enter Try.func43, Try.ntmps43
        go_wp2_with (go_at_call 60; refine hf.mono ?_; rintro e w' ⟨rfl, ⟨n, rfl⟩⟩)
        go_ret2
        exact ⟨rfl, _, rfl⟩
end

end Go.Proofs.Ytleoedjjepkhgaa
