import Derived.Test.YtkjggomkkfknhaaEqual
/- The laws' same, of two arenas in one state. -/
namespace Go.Proofs.Ytkjggomkkfknhaa
open Go.RowKit

section
variable {w : World} {p h c : Nat} {sv : Value} {cs : List Int} {S : St} {q : Nat} {lv : Value} {fv : Nat → Value}

theorem base_am (H : AM w p h c sv cs S) : Calls Try.prog 21 #[.pointer (some ⟨h, 0, none⟩)] w fun e w' => e = .returned (.int .i64 (S.base : Int)) ∧ w' = w := by
  have k := cell_at H.hv (o := 2) (v := .int .i64 (S.base : Int)) rfl
  go_enter Try.func21, Try.ntmps21
  go_wp2
  go_ret
  exact ⟨rfl, rfl⟩

theorem top_am (H : AM w p h c sv cs S) : Calls Try.prog 22 #[.pointer (some ⟨h, 0, none⟩)] w fun e w' => e = .returned (.int .i64 (S.top : Int)) ∧ w' = w := by
  have k := cell_at H.hv (o := 3) (v := .int .i64 (S.top : Int)) rfl
  go_enter Try.func22, Try.ntmps22
  go_wp2
  go_ret
  exact ⟨rfl, rfl⟩

theorem AM.rm_keep {W w : World} (H : AM W p h c sv cs S) (hc : Chg [] W w) : AM w p h c sv cs S := H.chg hc (by simp)

set_option maxHeartbeats 4000000 in
set_option maxRecDepth 100000 in
theorem same_am (HA : AM w p h c sv cs S) (HR : RM w q lv fv S) :
    Calls Try.prog 15 #[.pointer (some ⟨p, 0, none⟩), .pointer (some ⟨q, 0, none⟩)] w fun e w' => e = .returned (.bool true) ∧ Chg [] w w' := by
  have hcnt := HA.count
  have hbl := (blocks_small HA.ok).2
  have HB := Lib.hid (blocks_am HA)
  have H0 := Lib.hid (And.intro HA HR)
  have hn1 : ((S.L.length : Int) != (S.L.length : Int)) = false := bne_eq_false_iff_eq.2 rfl
  have hn2 : ((S.top : Int) != (S.top : Int)) = false := bne_eq_false_iff_eq.2 rfl
  have hn3 : ((S.base : Int) != (S.base : Int)) = false := bne_eq_false_iff_eq.2 rfl
  clear HA HR
  go_enter Try.func15, Try.ntmps15
  go_wp2_with fail
  refine HB.out.mono ?_
  rintro e w1 ⟨bv, rfl, hc1, hb1⟩
  obtain ⟨ba, bc, rfl⟩ := ownsRow_slice hb1
  have ha1 := H0.out.1.chg hc1 (by simp)
  have hr1 := H0.out.2.chg hc1 (by simp)
  obtain ⟨la, lc, hlv⟩ := ownsRow_slice hr1.row
  have f3 := hr1.fields.2.2
  rw [hlv] at f3
  have k0 := cell_at ha1.a (o := 0) (v := .pointer (some ⟨h, 0, none⟩)) rfl
  have HT := Lib.hid (top_am ha1)
  have HRT := Lib.hid (rtop_am hr1)
  have HBS := Lib.hid (fun n => base_am (ha1.drewN n))
  have HRB := Lib.hid (fun n => rbase_am (hr1.drewN n))
  have H1 := Lib.hid (And.intro ha1 (And.intro hr1 (And.intro hc1 hb1)))
  rw [hbl]
  clear ha1 hr1 hc1 hb1
  go_wp2_with (first | (go_at_call 22; refine HT.out.mono ?_; rintro e w' ⟨rfl, hw'⟩; obtain rfl := hw'.symm) | (go_at_call 44; refine HRT.out.mono ?_; rintro e w' ⟨rfl, ⟨n, rfl⟩⟩) | (go_at_call 21; refine (HBS.out _).mono ?_; rintro e w' ⟨rfl, hw'⟩; obtain rfl := hw'.symm) | (go_at_call 45; refine (HRB.out _).mono ?_; rintro e w' ⟨rfl, ⟨m, rfl⟩⟩))
  generalize n + m = N
  clear HT HRT HBS HRB f3 k0 HB H0
  go_loopg [42] S.L.length (fun gh v wr => ∃ k N : Nat, gh = S.L.length - k ∧ k ≤ S.L.length ∧ v = .int .i64 k ∧ wr = w1.drewN N)
  case atStart => exact ⟨0, N, rfl, Nat.zero_le _, rfl, rfl⟩
  case round =>
    obtain ⟨k, N, hgk, hk, rfl, rfl⟩ := hrel
    by_cases hlt : k < S.L.length
    · have hdec : decide ((k : Int) < (S.L.length : Int)) = true := decide_eq_true (by omega)
      have hbk : wat S.blocks k = 2 * ((S.pos k : Nat) : Int) := by
        unfold wat St.blocks
        rw [List.getD_eq_getElem?_getD, List.getElem?_map]
        unfold St.starts
        simp [hlt]
      have hb1 := H1.out.2.2.2
      rw [hbl] at hb1
      obtain ⟨gb, rfl, lb, cb⟩ := row_word hb1 hlt
      rw [hbk] at cb
      have hpl := pos_le H1.out.1.ok hlt
      obtain ⟨g2, hla, r1, r2, r3⟩ : ∃ g2, la = some ⟨g2, 0, none⟩ ∧ w1.cell? ⟨g2, k * 3, none⟩ = some (.int .i64 ((S.pos k : Nat) : Int)) ∧ w1.cell? ⟨g2, k * 3 + 1, none⟩ = some (.int .i64 (((S.blk k).tag : Nat) : Int)) ∧ w1.cell? ⟨g2, k * 3 + 2, none⟩ = some (fv k) := by
        rcases H1.out.2.1.rows with ⟨_, h0⟩ | ⟨g2, cap, e, _, hc⟩
        · omega
        · rw [hlv] at e
          simp only [Value.slice.injEq] at e
          exact ⟨g2, e.1, (hc k hlt).1, (hc k hlt).2.1, (hc k hlt).2.2⟩
      subst hla
      have f3 := H1.out.2.1.fields.2.2
      rw [hlv] at f3
      obtain ⟨fa, fc, hfv, hfr⟩ := H1.out.2.1.fieldRow hlt
      rw [hfv] at r3
      have hfp := find_ptr H1.out.1.ok hlt
      have hP := fun w => (rPtr_any ((S.pos k : Nat) : Int) (by omega) (by omega) w).mono (R' := fun e w' => e = .returned (.int .u64 (2 * ((S.pos k : Nat) : Int))) ∧ ∃ n, w' = w.drewN n) (fun e w' h => ⟨h.1, 0, h.2⟩)
      have hTg : ∀ N, Calls Try.prog 27 #[.pointer (some ⟨p, 0, none⟩), .int .u64 (2 * ((S.pos k : Nat) : Int))] (w1.drewN N) fun e w' => e = .returned (.int .i64 (((S.blk k).tag : Nat) : Int)) ∧ ∃ n, w' = (w1.drewN N).drewN n := by
        intro N
        have := tag_am (H1.out.1.drewN N) (2 * ((S.pos k : Nat) : Int)) (by omega) (by omega)
        unfold St.tagOf at this
        rw [hfp] at this
        exact this
      have hSz : ∀ N, Calls Try.prog 25 #[.pointer (some ⟨p, 0, none⟩), .int .u64 (2 * ((S.pos k : Nat) : Int))] (w1.drewN N) fun e w' => e = .returned (.int .i64 (((S.blk k).fs.length : Nat) : Int)) ∧ ∃ n, w' = (w1.drewN N).drewN n := by
        intro N
        have := size_am (H1.out.1.drewN N) (2 * ((S.pos k : Nat) : Int)) (by omega) (by omega)
        unfold St.sizeOf at this
        rw [hfp] at this
        exact this
      have e1 : ((2 * ((S.pos k : Nat) : Int)) != (2 * ((S.pos k : Nat) : Int))) = false := bne_eq_false_iff_eq.2 rfl
      have e2 : ((((S.blk k).tag : Nat) : Int) != (((S.blk k).tag : Nat) : Int)) = false := bne_eq_false_iff_eq.2 rfl
      have e3 : ((((S.blk k).fs.length : Nat) : Int) != (((S.blk k).fs.length : Nat) : Int)) = false := bne_eq_false_iff_eq.2 rfl
      have HFR := Lib.hid hfr
      clear hfr hfv hfp hb1 hbk
      go_upto_region 7 with fail
      refine region_quiet_at (by kernel_rfl) (by kernel_rfl) ?_
      repeat go_big_quiet_step (first | (go_at_call 24; exact Calls.quiet_of (hP _)) | (go_at_call 27; exact Calls.quiet_of (hTg _)) | (go_at_call 25; exact Calls.quiet_of (hSz _)))
      refine wpQuiet_nil ?_
      intro m2
      clear hP hTg hSz e2 e3
      have hGt : ∀ N (j : Nat), j < (S.blk k).fs.length → Calls Try.prog 28 #[.pointer (some ⟨p, 0, none⟩), .int .u64 (2 * ((S.pos k : Nat) : Int)), .int .i64 (j : Int)] (w1.drewN N) fun e w' => e = .returned (.tuple #[.int .u64 (wat (S.blk k).fs j), .int .i64 0]) ∧ ∃ n, w' = (w1.drewN N).drewN n := by
        intro N j hj
        have := get_am (H1.out.1.drewN N) (2 * ((S.pos k : Nat) : Int)) j (by omega) (by omega)
        unfold St.get at this
        rw [find_ptr H1.out.1.ok hlt] at this
        dsimp only at this
        rw [if_neg (by omega), Int.toNat_natCast] at this
        exact this
      have HGT := Lib.hid hGt
      have hsz := (H1.out.1.blkOk hlt).size
      clear hGt
      go_wp2_with fail
      go_loopg [103] (S.blk k).fs.length (fun gh v wr => ∃ j N : Nat, gh = (S.blk k).fs.length - j ∧ j ≤ (S.blk k).fs.length ∧ v = .int .i64 j ∧ wr = w1.drewN N)
      case atStart => exact ⟨0, _, rfl, Nat.zero_le _, rfl, rfl⟩
      case round =>
        obtain ⟨j, N2, hgj, hj, rfl, rfl⟩ := hrel
        by_cases hlt2 : j < (S.blk k).fs.length
        · have hdec2 : decide ((j : Int) < ((S.blk k).fs.length : Int)) = true := decide_eq_true (by omega)
          obtain ⟨g4, rfl, hc4⟩ : ∃ g4, fa = some ⟨g4, 0, none⟩ ∧ w1.cell? ⟨g4, j, none⟩ = some (.int .u64 (wat (S.blk k).fs j)) := by
            rcases HFR.out with ⟨_, h0⟩ | ⟨g4, e, hc⟩
            · omega
            · exact ⟨g4, e, hc j hlt2⟩
          have e4 : (wat (S.blk k).fs j != wat (S.blk k).fs j) = false := bne_eq_false_iff_eq.2 rfl
          have HG := Lib.hid (HGT.out N2 j hlt2)
          go_wp2_with (go_at_call 28; refine HG.out.mono ?_; rintro e w' ⟨rfl, ⟨m3, rfl⟩⟩)
          go_roundg ((S.blk k).fs.length - (j + 1))
          case measure => omega
          case rel => exact ⟨j + 1, N2 + m3, rfl, by omega, by go_num, by simp⟩
        · obtain rfl : j = (S.blk k).fs.length := by omega
          have hdec2 : decide (((S.blk k).fs.length : Int) < ((S.blk k).fs.length : Int)) = false := decide_eq_false (by omega)
          go_wp2_with fail
          go_roundg (S.L.length - (k + 1))
          case measure => omega
          case rel => exact ⟨k + 1, N2, rfl, by omega, by go_num, rfl⟩
    · obtain rfl : k = S.L.length := by omega
      have hdec : decide ((S.L.length : Int) < (S.L.length : Int)) = false := decide_eq_false (by omega)
      go_wp2_with fail
      go_ret
      exact ⟨rfl, H1.out.2.2.1.drewN N⟩
end

end Go.Proofs.Ytkjggomkkfknhaa
