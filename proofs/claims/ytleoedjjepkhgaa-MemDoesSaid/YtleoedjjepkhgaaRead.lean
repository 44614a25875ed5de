import Derived.Test.YtleoedjjepkhgaaFind
/- What reads the arena: Leads, Tag, Size, Get. -/
namespace Go.Proofs.Ytleoedjjepkhgaa
open Go.RowKit

def St.lds (S : St) (x : Int) : Int × Int := match S.find x with | some p => (2 * ((S.pos p.1 : Nat) : Int), ((p.2 : Nat) : Int)) | none => (0, 0)
def St.tagOf (S : St) (x : Int) : Int := match S.find x with | some p => (((S.blk p.1).tag : Nat) : Int) | none => -1
def St.sizeOf (S : St) (x : Int) : Int := match S.find x with | some p => (((S.blk p.1).fs.length : Nat) : Int) | none => -1
def St.fld (S : St) (x i : Int) : Int × Int := match S.find x with
  | some p => if i < 0 ∨ (((S.blk p.1).fs.length : Nat) : Int) ≤ i then (0, 2) else (((S.pos p.1 : Nat) : Int) + i, 0)
  | none => (0, 6)
def St.get (S : St) (x i : Int) : Int × Int := match S.find x with
  | some p => if i < 0 ∨ (((S.blk p.1).fs.length : Nat) : Int) ≤ i then (0, 2) else (wat (S.blk p.1).fs i.toNat, 0)
  | none => (0, 6)

section
variable {w : World} {p h c : Nat} {sv : Value} {cs : List Int} {S : St}

/-- the cell of a head -/
theorem AM.head (H : AM w p h c sv cs S) {k : Nat} (hk : k < S.L.length) :
    w.cell? ⟨c, S.pos k - 1, none⟩ = some (.int .u64 (2 * (256 * (((S.blk k).fs.length : Nat) : Int) + (((S.blk k).tag : Nat) : Int)) + 1)) := by
  have hpos := H.posLe hk
  have hhead := H.cell (j := S.pos k - 1) (by omega)
  rw [H.cells.head k hk] at hhead
  exact hhead

theorem AM.fieldCell (H : AM w p h c sv cs S) {k : Nat} (hk : k < S.L.length) {j : Nat} (hj : j < (S.blk k).fs.length) :
    w.cell? ⟨c, S.pos k + j, none⟩ = some (.int .u64 (wat (S.blk k).fs j)) := by
  have hpos := H.posLe hk
  have h3 := H.cell (j := S.pos k + j) (by omega)
  rw [H.cells.field k hk j hj] at h3
  exact h3

theorem AM.bounds (H : AM w p h c sv cs S) {k : Nat} (hk : k < S.L.length) : 1 ≤ S.pos k ∧ S.pos k + (S.blk k).fs.length ≤ 2 * S.n ∧ 2 * S.n ≤ 65536 ∧ (S.blk k).tag ≤ 255 ∧ (S.blk k).fs.length ≤ 4096 := by
  have h1 := H.posLe hk
  have h2 := (H.blkOk hk).tag
  have h3 := (H.blkOk hk).size
  unfold tagOk at h2
  omega

set_option maxHeartbeats 1000000 in
theorem leads_am (H : AM w p h c sv cs S) (x : Int) (h0 : 0 ≤ x) (h1 : x < 18446744073709551616) :
    Calls Try.prog 36 #[.pointer (some ⟨p, 0, none⟩), .int .u64 x] w fun e w' => e = .returned (.tuple #[.int .u64 (S.lds x).1, .int .i64 (S.lds x).2]) ∧ ∃ n, w' = w.drewN n := by
  have hf := find_am H x h0 h1
  unfold St.fnd at hf
  unfold St.lds
  cases hx : S.find x with
  | none =>
    rw [hx] at hf
    go_enter Try.func36, Try.ntmps36
    go_wp2_with (go_at_call 48; refine hf.mono ?_; rintro e w' ⟨rfl, ⟨n, rfl⟩⟩)
    go_ret2
    exact ⟨rfl, _, rfl⟩
  | some q =>
    rw [hx] at hf
    have hb := H.bounds (find_lt hx)
    dsimp only at hf ⊢
    generalize S.pos q.1 = po at *
    go_enter Try.func36, Try.ntmps36
    go_wp2_with (first | (go_at_call 48; refine hf.mono ?_; rintro e w' ⟨rfl, ⟨n, rfl⟩⟩) | (go_at_call 47; refine (wPtr_any _ (by omega) (by omega) _).mono ?_; rintro e w' ⟨rfl, rfl⟩))
    go_ret2
    exact ⟨rfl, _, rfl⟩

set_option maxHeartbeats 1000000 in
theorem tag_am (H : AM w p h c sv cs S) (x : Int) (h0 : 0 ≤ x) (h1 : x < 18446744073709551616) :
    Calls Try.prog 25 #[.pointer (some ⟨p, 0, none⟩), .int .u64 x] w fun e w' => e = .returned (.int .i64 (S.tagOf x)) ∧ ∃ n, w' = w.drewN n := by
  have hf := find_am H x h0 h1
  obtain ⟨f1, f2, f3, f4, f5, f6⟩ := H.fields
  unfold St.fnd at hf
  unfold St.tagOf
  cases hx : S.find x with
  | none =>
    rw [hx] at hf
    clear f1 f2 f3 f4 f5 f6
    go_enter Try.func25, Try.ntmps25
    go_wp2_with (go_at_call 48; refine hf.mono ?_; rintro e w' ⟨rfl, ⟨n, rfl⟩⟩)
    go_ret
    exact ⟨rfl, _, rfl⟩
  | some q =>
    rw [hx] at hf
    have hb := H.bounds (find_lt hx)
    have hh := H.head (find_lt hx)
    dsimp only at hf ⊢
    clear f2 f4 f5 f6
    generalize S.pos q.1 = po at *
    generalize (S.blk q.1).tag = tg at *
    generalize (S.blk q.1).fs.length = sz at *
    go_enter Try.func25, Try.ntmps25
    go_wp2_with (first | (go_at_call 48; refine hf.mono ?_; rintro e w' ⟨rfl, ⟨n, rfl⟩⟩) | (go_at_call 49; refine (wTag_any _ _ (by omega) (by omega) (by omega) (by omega) _).mono ?_; rintro e w' ⟨rfl, rfl⟩))
    go_ret
    exact ⟨rfl, _, rfl⟩

set_option maxHeartbeats 1000000 in
theorem size_am (H : AM w p h c sv cs S) (x : Int) (h0 : 0 ≤ x) (h1 : x < 18446744073709551616) :
    Calls Try.prog 26 #[.pointer (some ⟨p, 0, none⟩), .int .u64 x] w fun e w' => e = .returned (.int .i64 (S.sizeOf x)) ∧ ∃ n, w' = w.drewN n := by
  have hf := find_am H x h0 h1
  obtain ⟨f1, f2, f3, f4, f5, f6⟩ := H.fields
  unfold St.fnd at hf
  unfold St.sizeOf
  cases hx : S.find x with
  | none =>
    rw [hx] at hf
    clear f1 f2 f3 f4 f5 f6
    go_enter Try.func26, Try.ntmps26
    go_wp2_with (go_at_call 48; refine hf.mono ?_; rintro e w' ⟨rfl, ⟨n, rfl⟩⟩)
    go_ret
    exact ⟨rfl, _, rfl⟩
  | some q =>
    rw [hx] at hf
    have hb := H.bounds (find_lt hx)
    have hh := H.head (find_lt hx)
    dsimp only at hf ⊢
    clear f2 f4 f5 f6
    generalize S.pos q.1 = po at *
    generalize (S.blk q.1).tag = tg at *
    generalize (S.blk q.1).fs.length = sz at *
    go_enter Try.func26, Try.ntmps26
    go_wp2_with (first | (go_at_call 48; refine hf.mono ?_; rintro e w' ⟨rfl, ⟨n, rfl⟩⟩) | (go_at_call 50; refine (wSize_any _ _ (by omega) (by omega) (by omega) (by omega) _).mono ?_; rintro e w' ⟨rfl, rfl⟩))
    go_ret
    exact ⟨rfl, _, rfl⟩

set_option maxHeartbeats 1000000 in
theorem field_am (H : AM w p h c sv cs S) (x i : Int) (h0 : 0 ≤ x) (h1 : x < 18446744073709551616) :
    Calls Try.prog 51 #[.pointer (some ⟨p, 0, none⟩), .int .u64 x, .int .i64 i] w fun e w' => e = .returned (.tuple #[.int .i64 (S.fld x i).1, .int .i64 (S.fld x i).2]) ∧ ∃ n, w' = w.drewN n := by
  have hf := find_am H x h0 h1
  obtain ⟨f1, f2, f3, f4, f5, f6⟩ := H.fields
  unfold St.fnd at hf
  unfold St.fld
  cases hx : S.find x with
  | none =>
    rw [hx] at hf
    clear f1 f2 f3 f4 f5 f6
    go_enter Try.func51, Try.ntmps51
    go_wp2_with (go_at_call 48; refine hf.mono ?_; rintro e w' ⟨rfl, ⟨n, rfl⟩⟩)
    go_ret2
    exact ⟨rfl, _, rfl⟩
  | some q =>
    rw [hx] at hf
    have hb := H.bounds (find_lt hx)
    have hh := H.head (find_lt hx)
    dsimp only at hf ⊢
    clear f2 f4 f5 f6
    generalize S.pos q.1 = po at *
    generalize (S.blk q.1).tag = tg at *
    generalize (S.blk q.1).fs.length = sz at *
    by_cases c1 : i < 0
    · rw [if_pos (.inl c1)]
      have c2 : decide (i < 0) = true := decide_eq_true c1
      go_enter Try.func51, Try.ntmps51
      go_wp2_with (first | (go_at_call 48; refine hf.mono ?_; rintro e w' ⟨rfl, ⟨n, rfl⟩⟩))
      go_ret2
      exact ⟨rfl, _, rfl⟩
    · have c2 : decide (i < 0) = false := decide_eq_false c1
      by_cases c3 : (sz : Int) ≤ i
      · rw [if_pos (.inr c3)]
        go_enter Try.func51, Try.ntmps51
        go_wp2_with (first | (go_at_call 48; refine hf.mono ?_; rintro e w' ⟨rfl, ⟨n, rfl⟩⟩) | (go_at_call 50; refine (wSize_any _ _ (by omega) (by omega) (by omega) (by omega) _).mono ?_; rintro e w' ⟨rfl, rfl⟩))
        go_ret2
        exact ⟨rfl, _, rfl⟩
      · rw [if_neg (by omega)]
        go_enter Try.func51, Try.ntmps51
        go_wp2_with (first | (go_at_call 48; refine hf.mono ?_; rintro e w' ⟨rfl, ⟨n, rfl⟩⟩) | (go_at_call 50; refine (wSize_any _ _ (by omega) (by omega) (by omega) (by omega) _).mono ?_; rintro e w' ⟨rfl, rfl⟩))
        go_ret2
        exact ⟨rfl, _, rfl⟩

set_option maxHeartbeats 1000000 in
theorem get_am (H : AM w p h c sv cs S) (x i : Int) (h0 : 0 ≤ x) (h1 : x < 18446744073709551616) :
    Calls Try.prog 27 #[.pointer (some ⟨p, 0, none⟩), .int .u64 x, .int .i64 i] w fun e w' => e = .returned (.tuple #[.int .u64 (S.get x i).1, .int .i64 (S.get x i).2]) ∧ ∃ n, w' = w.drewN n := by
  have hf := field_am H x i h0 h1
  obtain ⟨f1, f2, f3, f4, f5, f6⟩ := H.fields
  unfold St.fld at hf
  unfold St.get
  clear f2 f4 f5 f6
  cases hx : S.find x with
  | none =>
    rw [hx] at hf
    go_enter Try.func27, Try.ntmps27
    go_wp2_with (go_at_call 51; refine hf.mono ?_; rintro e w' ⟨rfl, ⟨n, rfl⟩⟩)
    go_ret2
    exact ⟨rfl, _, rfl⟩
  | some q =>
    rw [hx] at hf
    have hb := H.bounds (find_lt hx)
    dsimp only at hf ⊢
    by_cases c1 : i < 0 ∨ (((S.blk q.1).fs.length : Nat) : Int) ≤ i
    · rw [if_pos c1] at hf ⊢
      clear c1
      go_enter Try.func27, Try.ntmps27
      go_wp2_with (go_at_call 51; refine hf.mono ?_; rintro e w' ⟨rfl, ⟨n, rfl⟩⟩)
      go_ret2
      exact ⟨rfl, _, rfl⟩
    · rw [if_neg c1] at hf ⊢
      obtain ⟨j, rfl⟩ := Int.eq_ofNat_of_zero_le (show 0 ≤ i by omega)
      have hc := H.fieldCell (find_lt hx) (j := j) (by omega)
      rw [Int.toNat_natCast]
      have hj : S.pos q.1 + j < 2 * S.n := by omega
      clear c1
      generalize S.pos q.1 = po at *
      go_enter Try.func27, Try.ntmps27
      go_wp2_with (go_at_call 51; refine hf.mono ?_; rintro e w' ⟨rfl, ⟨n, rfl⟩⟩)
      go_ret2
      exact ⟨rfl, _, rfl⟩
end

end Go.Proofs.Ytleoedjjepkhgaa
