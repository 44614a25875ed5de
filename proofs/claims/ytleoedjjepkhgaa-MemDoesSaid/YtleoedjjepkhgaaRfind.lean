import Derived.Test.YtleoedjjepkhgaaRefb
/- The reference's Find. -/
namespace Go.Proofs.Ytleoedjjepkhgaa
open Go.RowKit

def St.rfnd (S : St) (x : Int) : Int × Int := match S.find x with
  | some p => (((p.1 : Nat) : Int), ((p.2 : Nat) : Int))
  | none => (-1, 0)

/-- does the cell a lie at an inner slot of block j? -/
def inSlot (S : St) (a j : Nat) : Prop := S.pos j < a ∧ slotAt (S.blk j) (a - S.pos j) = true

theorem find_slot {S : St} {x : Int} {j : Nat} (hj : j < S.L.length) (h : inSlot S (addr x) j) : S.find x = some (j, addr x - S.pos j) := by
  have h1 := h.1
  exact (find_iff S x j _).2 ⟨by unfold St.pos at h1; omega, S.blk j, blk_get hj, by omega, .inr h.2⟩

theorem find_no {S : St} {x : Int} (h1 : ∀ j, j < S.L.length → S.pos j ≠ addr x) (h2 : ∀ j, j < S.L.length → ¬ inSlot S (addr x) j) : S.find x = none := by
  cases hf : S.find x with
  | none => rfl
  | some p =>
    obtain ⟨_, b, hb, hr, hd⟩ := (find_iff S x p.1 p.2).1 hf
    have hlt := find_lt hf
    have hbk : S.blk p.1 = b := by have := blk_get hlt; rw [hb] at this; simpa using this.symm
    rcases hd with hd | hd
    · exact absurd (by omega) (h1 p.1 hlt)
    · have := slotAt_lt hd
      refine absurd ⟨by omega, ?_⟩ (h2 p.1 hlt)
      rw [hbk, show addr x - S.pos p.1 = p.2 by omega]
      exact hd

section
variable {w : World} {q : Nat} {lv : Value} {fv : Nat → Value} {S : St}

set_option maxHeartbeats 4000000 in
set_option maxRecDepth 100000 in
theorem rfind_am (H : RM w q lv fv S) (x : Int) (h0 : 0 ≤ x) (h1 : x < 18446744073709551616) :
    Calls Try.prog 60 #[.pointer (some ⟨q, 0, none⟩), .int .u64 x] w fun e w' => e = .returned (.tuple #[.int .i64 (S.rfnd x).1, .int .i64 (S.rfnd x).2]) ∧ ∃ n, w' = w.drewN n := by
  obtain ⟨f1, f2, f3⟩ := H.fields
  have hcnt := H.count
  have hA := rAddr_any x h0 h1
  have hI := rIsInt_any x h0 h1
  clear f1 f2
  by_cases hn : isNum x = true
  · have hr : S.rfnd x = (-1, 0) := by unfold St.rfnd; rw [find_odd S x (by simpa [isNum] using hn)]
    rw [hr]
    rw [hn] at hI
    clear hr hn f3
    go_enter Try.func60, Try.ntmps60
    go_wp2_with (first | (go_at_call 71; refine (hI _).mono ?_; rintro e w' ⟨rfl, rfl⟩))
    go_ret2
    exact ⟨rfl, 0, rfl⟩
  · rw [show isNum x = false by simpa using hn] at hI
    clear hn
    have hpos1 : ∀ k, 1 ≤ S.pos k := fun k => by unfold St.pos; omega
    by_cases ha : addr x = 0
    · have hr : S.rfnd x = (-1, 0) := by
        unfold St.rfnd
        rw [find_no (fun j _ => by have := hpos1 j; omega) (fun j _ h => by have := h.1; omega)]
      rw [hr]
      rw [ha] at hA
      clear hr ha hpos1
      go_enter Try.func60, Try.ntmps60
      go_wp2_with (first | (go_at_call 71; refine (hI _).mono ?_; rintro e w' ⟨rfl, rfl⟩) | (go_at_call 72; refine (hA _).mono ?_; rintro e w' ⟨rfl, rfl⟩))
      go_ret2
      exact ⟨rfl, 0, rfl⟩
    · have hb : (((addr x : Nat) : Int) == 0) = false := beq_eq_false_iff_ne.2 (by omega)
      have hab : addr x ≤ 2147483647 := by unfold addr; split <;> omega
      clear hpos1 ha
      rcases H.rows with ⟨rfl, hL⟩ | ⟨g, cap, rfl, hcap, hg⟩
      · have hr : S.rfnd x = (-1, 0) := by
          unfold St.rfnd
          rw [find_no (fun j hj => by omega) (fun j hj => by omega)]
        rw [hr]
        generalize addr x = a at *
        clear hr
        go_enter Try.func60, Try.ntmps60
        go_wp2_with (first | (go_at_call 71; refine (hI _).mono ?_; rintro e w' ⟨rfl, rfl⟩) | (go_at_call 72; refine (hA _).mono ?_; rintro e w' ⟨rfl, rfl⟩))
        refine wp_loop_rounds 1 ?_
        rw [rounds_succ]
        go_wp2
        refine wp_loop_rounds 1 ?_
        rw [rounds_succ]
        go_wp2
        go_ret2
        exact ⟨rfl, 0, rfl⟩
      · go_enter Try.func60, Try.ntmps60
        go_wp2_with (first | (go_at_call 71; refine (hI _).mono ?_; rintro e w' ⟨rfl, hw'⟩; obtain rfl := hw'.symm) | (go_at_call 72; refine (hA _).mono ?_; rintro e w' ⟨rfl, hw'⟩; obtain rfl := hw'.symm))
        go_loop [7] (fun v => ∃ k : Nat, k ≤ S.L.length ∧ v = .int .i64 k ∧ ∀ j, j < k → S.pos j ≠ addr x) (fun v => S.L.length - (intOf v).toNat)
        case atStart => exact ⟨0, Nat.zero_le _, rfl, by omega⟩
        case round =>
          obtain ⟨k, hk, rfl, hno⟩ := hrel
          have HN := Lib.hid hno
          clear hno hA hI
          by_cases hlt : k < S.L.length
          · obtain ⟨c1, c2, c3⟩ := hg k hlt
            have hdec : decide ((k : Int) < (S.L.length : Int)) = true := decide_eq_true (by omega)
            clear hg c2 c3
            by_cases he : S.pos k = addr x
            · have hr : S.rfnd x = ((k : Int), 0) := by unfold St.rfnd; rw [find_eq hlt he.symm]; simp
              have HR := Lib.hid hr
              have hq : (((S.pos k : Nat) : Int) == ((addr x : Nat) : Int)) = true := beq_iff_eq.2 (by omega)
              clear hr he
              go_wp2
              go_ret2
              exact ⟨by rw [HR.out]; rfl, 0, rfl⟩
            · have hq : (((S.pos k : Nat) : Int) == ((addr x : Nat) : Int)) = false := beq_eq_false_iff_ne.2 (by omega)
              have HE := Lib.hid he
              clear he
              go_wp2
              go_round
              case rel => exact ⟨k + 1, by omega, by go_num, fun j hj => by rcases Nat.lt_succ_iff_lt_or_eq.1 hj with h | h; exact HN.out j h; exact h ▸ HE.out⟩
              case measure => simp [intOf]; omega
          · obtain rfl : k = S.L.length := by omega
            have hdec : decide ((S.L.length : Int) < (S.L.length : Int)) = false := decide_eq_false (by omega)
            go_wp2
            go_loopw [8] (fun v wr => ∃ k : Nat, k ≤ S.L.length ∧ v = .int .i64 k ∧ (∀ j, j < k → ¬ inSlot S (addr x) j) ∧ ∃ n, wr = w.drewN n) (fun v _ => S.L.length - (intOf v).toNat)
            case atStart => exact ⟨0, Nat.zero_le _, rfl, by omega, 0, rfl⟩
            case round =>
              obtain ⟨k, hk2, rfl, hno, n, rfl⟩ := hrel
              have HM := Lib.hid hno
              clear hno hk hlt hdec
              by_cases hlt : k < S.L.length
              · obtain ⟨c1, c2, c3⟩ := hg k hlt
                have hdec : decide ((k : Int) < (S.L.length : Int)) = true := decide_eq_true (by omega)
                obtain ⟨fa, fc, hfv, hfr⟩ := H.fieldRow hlt
                have hbo := H.blks _ (List.mem_of_getElem? (blk_get hlt))
                have hsz := hbo.size
                have htg : (S.blk k).tag ≤ 255 := by have := hbo.tag; unfold tagOk at this; omega
                have hpl : S.pos k ≤ 65536 := by have := pos_le H.ok hlt; omega
                rw [hfv] at c3
                clear hg hfv hbo
                have slot_eq : S.pos k < addr x → slotAt (S.blk k) (addr x - S.pos k) = ((S.blk k).tag == 200 && decide (addr x - S.pos k < (S.blk k).fs.length) && (wat (S.blk k).fs (addr x - S.pos k - 1) == hd 201 (addr x - S.pos k))) := by
                  intro hp
                  unfold slotAt wat
                  rw [show decide (1 ≤ addr x - S.pos k) = true from decide_eq_true (by omega)]
                  simp
                by_cases k1 : (S.blk k).tag = 200
                · have q1 : ((((S.blk k).tag : Nat) : Int) == 200) = true := beq_iff_eq.2 (by omega)
                  by_cases k2 : S.pos k < addr x
                  · have q2 : decide ((1 : Int) ≤ ((addr x : Nat) : Int) - ((S.pos k : Nat) : Int)) = true := decide_eq_true (by omega)
                    by_cases k3 : addr x - S.pos k < (S.blk k).fs.length
                    · have q3 : decide (((addr x : Nat) : Int) - ((S.pos k : Nat) : Int) < (((S.blk k).fs.length : Nat) : Int)) = true := decide_eq_true (by omega)
                      have hfr2 : ∃ g', fa = some ⟨g', 0, none⟩ ∧ w.cell? ⟨g', addr x - S.pos k - 1, none⟩ = some (.int .u64 (wat (S.blk k).fs (addr x - S.pos k - 1))) := by
                        rcases hfr with ⟨_, h⟩ | ⟨g', e, h⟩
                        · omega
                        · exact ⟨g', e, h _ (by omega)⟩
                      obtain ⟨g', rfl, hc4⟩ := hfr2
                      clear hfr
                      by_cases k4 : wat (S.blk k).fs (addr x - S.pos k - 1) = hd 201 (addr x - S.pos k)
                      · have q4 : (wat (S.blk k).fs (addr x - S.pos k - 1) == 2 * (256 * (((addr x : Nat) : Int) - ((S.pos k : Nat) : Int)) + 201) + 1) = true := beq_iff_eq.2 (by rw [k4]; unfold hd; omega)
                        have hs : inSlot S (addr x) k := ⟨k2, by rw [slot_eq k2]; simp [k1, k3, k4]⟩
                        have HR := Lib.hid (show S.rfnd x = ((k : Int), (((addr x - S.pos k : Nat)) : Int)) by unfold St.rfnd; rw [find_slot hlt hs])
                        clear hs k4 slot_eq k1
                        go_wp2
                        refine region_quiet_at (by kernel_rfl) (by kernel_rfl) ?_
                        repeat go_big_quiet_step ((go_at_call 73; exact Calls.quiet_of_same (rHead_any _ _ (by omega) (by omega) (by omega) (by omega) _)))
                        refine wpQuiet_nil ?_
                        intro m
                        go_wp2
                        go_ret2
                        exact ⟨by rw [HR.out]; exact ret_ii rfl (by omega), _, rfl⟩
                      · have q4 : (wat (S.blk k).fs (addr x - S.pos k - 1) == 2 * (256 * (((addr x : Nat) : Int) - ((S.pos k : Nat) : Int)) + 201) + 1) = false := beq_eq_false_iff_ne.2 (fun h => k4 (by rw [h]; unfold hd; omega))
                        have NS := Lib.hid (show ¬ inSlot S (addr x) k from fun h => by have := h.2; rw [slot_eq k2] at this; simp [k4] at this)
                        clear k4 slot_eq k1
                        go_wp2
                        refine region_quiet_at (by kernel_rfl) (by kernel_rfl) ?_
                        repeat go_big_quiet_step ((go_at_call 73; exact Calls.quiet_of_same (rHead_any _ _ (by omega) (by omega) (by omega) (by omega) _)))
                        refine wpQuiet_nil ?_
                        intro m
                        go_wp2
                        go_roundw
                        case rel => exact ⟨k + 1, by omega, by go_num, fun j hj => by rcases Nat.lt_succ_iff_lt_or_eq.1 hj with h | h; exact HM.out j h; exact h ▸ NS.out, _, rfl⟩
                        case measure => simp [intOf]; omega
                    · have q3 : decide (((addr x : Nat) : Int) - ((S.pos k : Nat) : Int) < (((S.blk k).fs.length : Nat) : Int)) = false := decide_eq_false (by omega)
                      have NS := Lib.hid (show ¬ inSlot S (addr x) k from fun h => by have := h.2; rw [slot_eq k2] at this; simp [k3] at this)
                      clear slot_eq k1 hfr
                      go_wp2
                      refine region_quiet_at (by kernel_rfl) (by kernel_rfl) ?_
                      repeat go_big_quiet_step ((go_at_call 73; exact Calls.quiet_of_same (rHead_any _ _ (by omega) (by omega) (by omega) (by omega) _)))
                      refine wpQuiet_nil ?_
                      intro m
                      go_wp2
                      go_roundw
                      case rel => exact ⟨k + 1, by omega, by go_num, fun j hj => by rcases Nat.lt_succ_iff_lt_or_eq.1 hj with h | h; exact HM.out j h; exact h ▸ NS.out, _, rfl⟩
                      case measure => simp [intOf]; omega
                  · have q2 : decide ((1 : Int) ≤ ((addr x : Nat) : Int) - ((S.pos k : Nat) : Int)) = false := decide_eq_false (by omega)
                    have NS := Lib.hid (show ¬ inSlot S (addr x) k from fun h => k2 h.1)
                    clear slot_eq k1 hfr
                    go_wp2
                    refine region_quiet_at (by kernel_rfl) (by kernel_rfl) ?_
                    repeat go_big_quiet_step ((go_at_call 73; exact Calls.quiet_of_same (rHead_any _ _ (by omega) (by omega) (by omega) (by omega) _)))
                    refine wpQuiet_nil ?_
                    intro m
                    go_wp2
                    go_roundw
                    case rel => exact ⟨k + 1, by omega, by go_num, fun j hj => by rcases Nat.lt_succ_iff_lt_or_eq.1 hj with h | h; exact HM.out j h; exact h ▸ NS.out, _, rfl⟩
                    case measure => simp [intOf]; omega
                · have q1 : ((((S.blk k).tag : Nat) : Int) == 200) = false := beq_eq_false_iff_ne.2 (by omega)
                  have NS := Lib.hid (show ¬ inSlot S (addr x) k from fun h => by have := h.2; rw [slot_eq h.1] at this; simp [k1] at this)
                  clear slot_eq k1 hfr
                  go_wp2
                  refine region_quiet_at (by kernel_rfl) (by kernel_rfl) ?_
                  repeat go_big_quiet_step ((go_at_call 73; exact Calls.quiet_of_same (rHead_any _ _ (by omega) (by omega) (by omega) (by omega) _)))
                  refine wpQuiet_nil ?_
                  intro m
                  go_wp2
                  go_roundw
                  case rel => exact ⟨k + 1, by omega, by go_num, fun j hj => by rcases Nat.lt_succ_iff_lt_or_eq.1 hj with h | h; exact HM.out j h; exact h ▸ NS.out, _, rfl⟩
                  case measure => simp [intOf]; omega
              · obtain rfl : k = S.L.length := by omega
                have hdec : decide ((S.L.length : Int) < (S.L.length : Int)) = false := decide_eq_false (by omega)
                have HR := Lib.hid (show S.rfnd x = (-1, 0) by unfold St.rfnd; rw [find_no (fun j hj => HN.out j hj) (fun j hj => HM.out j hj)])
                clear hg
                go_wp2
                go_ret2
                exact ⟨by rw [HR.out]; rfl, _, rfl⟩
end

end Go.Proofs.Ytleoedjjepkhgaa
