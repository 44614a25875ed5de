import Derived.Test.YtleoedjjepkhgaaMforce
import Derived.Test.YtleoedjjepkhgaaPlay
import Derived.Test.YtleoedjjepkhgaaReach
import Derived.Test.YtleoedjjepkhgaaClone
/- (*Mem).Alloc: so far the half's length alone. -/
namespace Go.Proofs.Ytleoedjjepkhgaa
open Go.RowKit

theorem half_am {w : World} {p h c : Nat} {sv : Value} {cs : List Int} {S : St} (H : AM w p h c sv cs S) :
    Calls Try.prog 54 #[.pointer (some ⟨h, 0, none⟩)] w fun e w' => e = .returned (.int .i64 (S.n : Int)) ∧ w' = w := by
  have k := cell_at H.hv (o := 1) (v := .int .i64 (S.n : Int)) rfl
  go_enter Try.func54, Try.ntmps54
  go_wp2
  go_ret
  exact ⟨rfl, rfl⟩

theorem mem_ne {w : World} {M p h c : Nat} {k : Int} {sv : Value} {cs : List Int} {S : St} (HM : MemAt w M p k) (H : AM w p h c sv cs S) : ∀ j ∈ foot p h c sv, j ≠ M := by
  intro j hj
  unfold foot at hj
  simp only [List.mem_cons] at hj
  rcases hj with rfl | rfl | rfl | hj
  · exact row_ne H.a HM (by decide)
  · exact row_ne H.hv HM (by decide)
  · exact row_ne H.cc HM (by decide)
  · intro e
    subst e
    rw [Option.mem_toList] at hj
    exact own_ne' H.starts HM (by decide) hj

set_option maxHeartbeats 4000000 in
set_option maxRecDepth 100000 in
/-- there is room at once -/
theorem malloc_room {w : World} {M p h c : Nat} {k : Int} {sv : Value} {cs : List Int} {S : St} (HM : MemAt w M p k) (H : AM w p h c sv cs S) (t m : Int) (ht : -9223372036854775808 ≤ t ∧ t ≤ 9223372036854775807)
    (rv : Value) (roots : List Int) (hr : w.ownsRow 0 49 1 rv roots.length (words roots)) (hrl : roots.length ≤ 1000000) (hsep : ∀ b, rv.ownBlock = some b → b ∉ foot p h c sv) (he : allocErr S t m = 0) :
    Calls Try.prog 28 #[.pointer (some ⟨M, 0, none⟩), .int .i64 t, .int .i64 m, rv] w fun e w' => ∃ v, e = .returned (.tuple #[.int .u64 (layWord S t m), v, .int .i64 0]) ∧ Chg (foot p h c sv) w w' ∧ MemAt w' M p k ∧
      (∃ sv' ds, AM w' p h c sv' ds (S.lay t m) ∧ (sv'.ownBlock = sv.ownBlock ∨ ∃ b, sv'.ownBlock = some b ∧ w.heap.size ≤ b)) ∧ w'.ownsRow w.heap.size 49 1 v roots.length (words roots) := by
  have hne := mem_ne HM H
  have k0 := cell_at HM (o := 0) (v := .pointer (some ⟨p, 0, none⟩)) rfl
  have hal := alloc_am H t m ht
  rw [he] at hal
  have HAL := Lib.hid hal
  have HR := Lib.hid hr
  have HMM := Lib.hid HM
  obtain ⟨ra, rc, rfl⟩ := ownsRow_slice hr
  have HNE := Lib.hid hne
  have HH := Lib.hid H
  have e0 : ((0 : Int) == 0) = true := rfl
  clear hal hr HM hne H
  go_enter Try.func28, Try.ntmps28
  go_wp2_with fail
  refine HAL.out.mono ?_
  rintro e w1 ⟨rfl, hc1, sv1, ds1, hm1, hs1⟩
  have hr1 := ownsRow_chg HR.out hc1 hsep
  have HCL := Lib.hid (clone_am 0 _ roots hr1 hrl)
  have HS1 := Lib.hid (And.intro hc1 (And.intro hm1 hs1))
  clear hc1 hm1 hs1 hr1 hsep
  go_wp2_with fail
  refine HCL.out.mono ?_
  rintro e w2 ⟨v2, rfl, hc2, hr2⟩
  obtain ⟨va, vc, rfl⟩ := ownsRow_slice hr2
  have HS2 := Lib.hid (And.intro hc2 hr2)
  clear hc2 hr2
  go_wp2_with fail
  go_ret3
  obtain ⟨hc1, hm1, hs1⟩ := HS1.out
  obtain ⟨hc2, hr2⟩ := HS2.out
  refine ⟨_, rfl, hc1.trans (hc2.mono (by simp)), ?_, ⟨_, _, hm1.chg hc2 (by simp), hs1⟩, own_low hr2 hc1.size⟩
  exact hc2.get (hc1.get HMM.out (fun hin => HNE.out M hin rfl)) (by simp)

set_option maxHeartbeats 4000000 in
set_option maxRecDepth 100000 in
/-- what is asked for is wrong -/
theorem malloc_bad {w : World} {M p h c : Nat} {k : Int} {sv : Value} {cs : List Int} {S : St} (HM : MemAt w M p k) (H : AM w p h c sv cs S) (t m : Int) (ht : -9223372036854775808 ≤ t ∧ t ≤ 9223372036854775807)
    (ra : Option Addr) (n rc : Nat) (he : allocErr S t m ≠ 0) (he2 : allocErr S t m ≠ 10) :
    Calls Try.prog 28 #[.pointer (some ⟨M, 0, none⟩), .int .i64 t, .int .i64 m, .slice ra n rc] w fun e w' => e = .returned (.tuple #[.int .u64 0, .slice none 0 0, .int .i64 (allocErr S t m)]) ∧ Chg (foot p h c sv) w w' ∧ MemAt w' M p k ∧
      (∃ sv' ds, AM w' p h c sv' ds S ∧ (sv'.ownBlock = sv.ownBlock ∨ ∃ b, sv'.ownBlock = some b ∧ w.heap.size ≤ b)) := by
  have hne := mem_ne HM H
  have k0 := cell_at HM (o := 0) (v := .pointer (some ⟨p, 0, none⟩)) rfl
  have hal := alloc_am H t m ht
  have hlay : S.lay t m = S := by unfold St.lay; rw [if_neg he]
  rw [hlay] at hal
  have HAL := Lib.hid hal
  have HMM := Lib.hid HM
  have HNE := Lib.hid hne
  have e0 : (allocErr S t m == 0) = false := beq_eq_false_iff_ne.2 he
  have e1 : (allocErr S t m != 10) = true := bne_iff_ne.2 he2
  clear hal HM hne H he he2 hlay
  generalize layWord S t m = lw at HAL
  generalize allocErr S t m = er at HAL e0 e1 ⊢
  go_enter Try.func28, Try.ntmps28
  go_wp2_with fail
  refine HAL.out.mono ?_
  rintro e w1 ⟨rfl, hc1, sv1, ds1, hm1, hs1⟩
  have HS1 := Lib.hid (And.intro hc1 (And.intro hm1 hs1))
  clear hc1 hm1 hs1
  go_wp2_with fail
  go_ret3
  obtain ⟨hc1, hm1, hs1⟩ := HS1.out
  exact ⟨rfl, hc1, hc1.get HMM.out (fun hin => HNE.out M hin rfl), _, _, hm1, hs1⟩

set_option maxHeartbeats 4000000 in
set_option maxRecDepth 100000 in
/-- there is no room, and there would be none -/
theorem malloc_full {w : World} {M p h c : Nat} {k : Int} {sv : Value} {cs : List Int} {S : St} (HM : MemAt w M p k) (H : AM w p h c sv cs S) (t m : Int) (ht : -9223372036854775808 ≤ t ∧ t ≤ 9223372036854775807)
    (rv : Value) (roots : List Int) (hr : w.ownsRow 0 49 1 rv roots.length (words roots)) (hrl : roots.length ≤ 1000000) (hw : ∀ x ∈ roots, Wd x) (hsep : ∀ b, rv.ownBlock = some b → b ∉ foot p h c sv) (he : allocErr S t m = 10)
    (hf : (S.n : Int) < (S.cells roots : Int) + m + 1) :
    Calls Try.prog 28 #[.pointer (some ⟨M, 0, none⟩), .int .i64 t, .int .i64 m, rv] w fun e w' => e = .returned (.tuple #[.int .u64 0, .slice none 0 0, .int .i64 10]) ∧ Chg (foot p h c sv) w w' ∧ MemAt w' M p k ∧
      (∃ sv' ds, AM w' p h c sv' ds S ∧ (sv'.ownBlock = sv.ownBlock ∨ ∃ b, sv'.ownBlock = some b ∧ w.heap.size ≤ b)) := by
  have hne := mem_ne HM H
  have k0 := cell_at HM (o := 0) (v := .pointer (some ⟨p, 0, none⟩)) rfl
  have hal := alloc_am H t m ht
  have hlay : S.lay t m = S := by unfold St.lay; rw [if_neg (by omega)]
  have hm0 : 0 ≤ m ∧ m ≤ 4096 := by
    have h1 := allocErr_ask S t m
    rw [he] at h1
    unfold askErr at h1
    by_cases q1 : (t < 0 ∨ 199 < t) ∧ t ≠ 200 ∧ t ≠ 202
    · simp [q1] at h1
    · by_cases q2 : m < 0 ∨ 4096 < m
      · simp [q1, q2] at h1
      · omega
  have hcl : (S.cells roots : Int) ≤ 32768 := by
    have h1 := cells_le_span (S := S) roots
    have h2 := H.ok.fit
    have h3 := H.ok.n3
    omega
  rw [hlay, he] at hal
  obtain ⟨ra, rc, rfl⟩ := ownsRow_slice hr
  have HAL := Lib.hid hal
  have HR := Lib.hid hr
  have HMM := Lib.hid HM
  have HNE := Lib.hid hne
  have hw1 : IntKind.i64.wrap ((S.cells roots : Int) + m) = (S.cells roots : Int) + m := IntWalk.i64_in _ (by omega)
  have hw2 : IntKind.i64.wrap ((S.cells roots : Int) + m + 1) = (S.cells roots : Int) + m + 1 := IntWalk.i64_in _ (by omega)
  have hd : decide ((S.n : Int) < (S.cells roots : Int) + m + 1) = true := decide_eq_true hf
  have e0 : ((10 : Int) == 0) = false := rfl
  have e1 : ((10 : Int) != 10) = false := rfl
  clear hal HM hne H he hlay hr hf hm0 hcl
  generalize layWord S t m = lw at HAL
  go_enter Try.func28, Try.ntmps28
  go_wp2_with fail
  refine HAL.out.mono ?_
  rintro e w1 ⟨rfl, hc1, sv1, ds1, hm1, hs1⟩
  have hr1 := ownsRow_chg HR.out hc1 hsep
  have HRE := Lib.hid (reach_am hm1 _ roots hr1 hw hrl)
  have k1 := cell_at (hc1.get HMM.out (fun hin => HNE.out M hin rfl)) (o := 0) (v := .pointer (some ⟨p, 0, none⟩)) rfl
  have HS1 := Lib.hid (And.intro hc1 (And.intro hm1 hs1))
  have HM1 := Lib.hid (show MemAt w1 M p k from hc1.get HMM.out (fun hin => HNE.out M hin rfl))
  clear hc1 hm1 hs1 hr1 hsep
  go_wp2_with fail
  refine HRE.out.mono ?_
  rintro e w2 ⟨lv, rfl, hc2, hl2⟩
  obtain ⟨la, lc, rfl⟩ := ownsRow_slice hl2
  have hM2 : MemAt w2 M p k := hc2.get HM1.out (by simp)
  have hA2 := HS1.out.2.1.chg hc2 (by simp)
  have k2 := cell_at hM2 (o := 0) (v := .pointer (some ⟨p, 0, none⟩)) rfl
  have k3 := cell_at hA2.a (o := 0) (v := .pointer (some ⟨h, 0, none⟩)) rfl
  have HHF := Lib.hid (half_am hA2)
  have HS2 := Lib.hid (And.intro hc2 (And.intro hM2 hA2))
  clear hc2 hl2 hM2 hA2 HRE
  go_wp2_with (go_at_call 54; refine HHF.out.mono ?_; rintro e w' ⟨rfl, hw'⟩; obtain rfl := hw'.symm)
  go_ret3
  obtain ⟨hc1, _, hs1⟩ := HS1.out
  obtain ⟨hc2, hM2, hA2⟩ := HS2.out
  exact ⟨rfl, hc1.trans (hc2.mono (by simp)), hM2, _, _, hA2, hs1⟩

end Go.Proofs.Ytleoedjjepkhgaa
