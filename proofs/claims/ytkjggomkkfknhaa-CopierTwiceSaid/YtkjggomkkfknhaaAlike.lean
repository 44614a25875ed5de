import Derived.Test.YtkjggomkkfknhaaGraph
import Derived.Test.YtkjggomkkfknhaaRefa
/- The laws' alike, of two rows that are one; and stray. -/
namespace Go.Proofs.Ytkjggomkkfknhaa
open Go.RowKit

section
variable {w : World}

set_option maxHeartbeats 2000000 in
set_option maxRecDepth 100000 in
theorem alike_am {b1 b2 : Nat} {v1 v2 : Value} {l : List Nd} (h1 : w.ownsRow b1 88 3 v1 l.length (ndCs l)) (h2 : w.ownsRow b2 88 3 v2 l.length (ndCs l)) (hl : l.length ≤ 1000000) :
    Calls Try.prog 20 #[v1, v2] w fun e w' => e = .returned (.bool true) ∧ ∃ n, w' = w.drewN n := by
  obtain ⟨a1, c1, rfl⟩ := ownsRow_slice h1
  obtain ⟨a2, c2, rfl⟩ := ownsRow_slice h2
  have H1 := Lib.hid h1
  have H2 := Lib.hid h2
  clear h1 h2
  have hd : ((l.length : Int) != (l.length : Int)) = false := bne_eq_false_iff_eq.2 rfl
  go_enter Try.func20, Try.ntmps20
  go_wp2_with fail
  go_loopg [13] l.length (fun gh v wr => ∃ k : Nat, gh = l.length - k ∧ k ≤ l.length ∧ v = .int .i64 k ∧ ∃ n, wr = w.drewN n)
  case atStart => exact ⟨0, rfl, Nat.zero_le _, rfl, 0, rfl⟩
  case round =>
    obtain ⟨k, hgk, hk, rfl, n, rfl⟩ := hrel
    by_cases hlt : k < l.length
    · have hdec : decide ((k : Int) < (l.length : Int)) = true := decide_eq_true (by omega)
      obtain ⟨nd, hnd⟩ : ∃ nd, l[k]? = some nd := ⟨_, List.getElem?_eq_getElem hlt⟩
      obtain ⟨g1, rfl, l1, p0, p1, p2⟩ := row_node H1.out hnd
      obtain ⟨g2, rfl, l2, q0, q1, q2⟩ := row_node H2.out hnd
      clear hnd
      go_upto_region 6 with fail
      refine region_quiet_at (by kernel_rfl) (by kernel_rfl) ?_
      repeat go_big_quiet_step (fail)
      refine wpQuiet_nil ?_
      intro m
      go_wp2_with fail
      go_roundg (l.length - (k + 1))
      case measure => omega
      case rel => exact ⟨k + 1, rfl, by omega, by go_num, m, rfl⟩
    · obtain rfl : k = l.length := by omega
      have hdec : decide ((l.length : Int) < (l.length : Int)) = false := decide_eq_false (by omega)
      go_wp2_with fail
      go_ret
      exact ⟨rfl, n, rfl⟩

def strayN (n : Nd) : Bool := decide (n.place < 0) && !isNum n.w && decide (n.w ≠ 0)

theorem stray_snoc {l : List Nd} {k : Nat} {nd : Nd} (h : l[k]? = some nd) : (l.take (k + 1)).any strayN = ((l.take k).any strayN || strayN nd) := by
  rw [List.take_add_one, h, List.any_append]; simp

theorem stray_hit {l : List Nd} {nd : Nd} (h : nd ∈ l) (hs : strayN nd = true) : l.any strayN = true := List.any_eq_true.2 ⟨nd, h, hs⟩

set_option maxHeartbeats 2000000 in
set_option maxRecDepth 100000 in
theorem stray_am {b1 : Nat} {v1 : Value} {l : List Nd} (p : Nat) (h1 : w.ownsRow b1 88 3 v1 l.length (ndCs l)) (hl : l.length ≤ 1000000) (hw : ∀ n ∈ l, Wd n.w) :
    Calls Try.prog 19 #[.pointer (some ⟨p, 0, none⟩), v1] w fun e w' => e = .returned (.bool (l.any strayN)) ∧ w = w' := by
  obtain ⟨a1, c1, rfl⟩ := ownsRow_slice h1
  have H1 := Lib.hid h1
  have HW := Lib.hid hw
  clear h1 hw
  go_enter Try.func19, Try.ntmps19
  go_wp2_with fail
  go_loopg [8] l.length (fun gh v wr => ∃ k : Nat, gh = l.length - k ∧ k ≤ l.length ∧ v = .int .i64 k ∧ Hid ((l.take k).any strayN = false) ∧ w = wr)
  case atStart => exact ⟨0, rfl, Nat.zero_le _, rfl, Lib.hid rfl, rfl⟩
  case round =>
    obtain ⟨k, hgk, hk, rfl, HS, rfl⟩ := hrel
    by_cases hlt : k < l.length
    · have hdec : decide ((k : Int) < (l.length : Int)) = true := decide_eq_true (by omega)
      obtain ⟨nd, hnd⟩ : ∃ nd, l[k]? = some nd := ⟨_, List.getElem?_eq_getElem hlt⟩
      have hmem := List.mem_of_getElem? hnd
      obtain ⟨g1, rfl, l1, p0, p1, p2⟩ := row_node H1.out hnd
      have hwd := HW.out nd hmem
      have HI := Lib.hid (fun w => rIsInt_any nd.w hwd.1 hwd.2 w)
      have hsn := stray_snoc hnd
      rw [HS.out, Bool.false_or] at hsn
      have HSN := Lib.hid hsn
      have HM := Lib.hid hmem
      clear hnd hmem hsn
      have hdef : strayN nd = (decide (nd.place < 0) && !isNum nd.w && decide (nd.w ≠ 0)) := rfl
      by_cases hp : nd.place < 0
      · have hp' : decide (nd.place < 0) = true := decide_eq_true hp
        rw [hp'] at hdef
        cases hi : isNum nd.w with
        | true =>
          rw [hi] at HI hdef
          have HD := Lib.hid hdef
          clear hdef hi
          go_wp2_with (go_at_call 48; refine (HI.out _).mono ?_; rintro e w' ⟨rfl, hw'⟩; obtain rfl := hw'.symm)
          go_roundg (l.length - (k + 1))
          case measure => omega
          case rel => exact ⟨k + 1, rfl, by omega, by go_num, Lib.hid (by rw [HSN.out, HD.out]; rfl), rfl⟩
        | false =>
          rw [hi] at HI hdef
          by_cases hz : nd.w = 0
          · have hz' : (nd.w != 0) = false := bne_eq_false_iff_eq.2 hz
            rw [decide_eq_false (by simpa using hz)] at hdef
            have HD := Lib.hid hdef
            clear hdef hi hz
            go_wp2_with (go_at_call 48; refine (HI.out _).mono ?_; rintro e w' ⟨rfl, hw'⟩; obtain rfl := hw'.symm)
            go_roundg (l.length - (k + 1))
            case measure => omega
            case rel => exact ⟨k + 1, rfl, by omega, by go_num, Lib.hid (by rw [HSN.out, HD.out]; rfl), rfl⟩
          · have hz' : (nd.w != 0) = true := bne_iff_ne.2 hz
            rw [decide_eq_true hz] at hdef
            have HD := Lib.hid (stray_hit HM.out hdef)
            clear hdef hi hz
            go_wp2_with (go_at_call 48; refine (HI.out _).mono ?_; rintro e w' ⟨rfl, hw'⟩; obtain rfl := hw'.symm)
            go_ret
            exact ⟨ret_b HD.out.symm, rfl⟩
      · have hp' : decide (nd.place < 0) = false := decide_eq_false hp
        rw [hp'] at hdef
        have HD := Lib.hid hdef
        clear hdef
        go_wp2_with fail
        go_roundg (l.length - (k + 1))
        case measure => omega
        case rel => exact ⟨k + 1, rfl, by omega, by go_num, Lib.hid (by rw [HSN.out, HD.out]; rfl), rfl⟩
    · obtain rfl : k = l.length := by omega
      have hdec : decide ((l.length : Int) < (l.length : Int)) = false := decide_eq_false (by omega)
      have h9 : l.any strayN = false := by have := HS.out; rwa [List.take_length] at this
      have H9 := Lib.hid h9
      clear h9
      go_wp2_with fail
      go_ret
      exact ⟨ret_b H9.out.symm, rfl⟩
end

end Go.Proofs.Ytkjggomkkfknhaa
