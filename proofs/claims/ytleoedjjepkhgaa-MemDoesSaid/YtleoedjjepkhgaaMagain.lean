import Derived.Test.YtleoedjjepkhgaaMalloc
import Derived.Test.YtleoedjjepkhgaaCollect
import Derived.Test.YtleoedjjepkhgaaDoer
/- (*Mem).Force, and (*Mem).Alloc: the way with a collection; then all four ways in one. -/
namespace Go.Proofs.Ytleoedjjepkhgaa
open Go.RowKit

set_option maxHeartbeats 1000000 in
/-- a collection -/
theorem mforce_am {w : World} {M p h c : Nat} {k : Int} {sv : Value} {cs : List Int} {S : St} (HM : MemAt w M p k) (hk : 0 ≤ k ∧ k < 9223372036854775807) (H : AM w p h c sv cs S)
    (rv : Value) (roots : List Int) (hr : w.ownsRow 0 49 1 rv roots.length (words roots)) (hw : ∀ x ∈ roots, Wd x) (hrl : roots.length ≤ 1000000) :
    Calls Try.prog 33 #[.pointer (some ⟨M, 0, none⟩), rv] w fun e w' => ∃ v, e = .returned v ∧ Chg (M :: foot p h c sv) w w' ∧ MemAt w' M p (k + 1) ∧
      (∃ sv' ds, AM w' p h c sv' ds (S.coll roots) ∧ ∀ b, sv'.ownBlock = some b → b ∈ foot p h c sv ∨ w.heap.size ≤ b) ∧ w'.ownsRow w.heap.size 49 1 v roots.length (words (S.now roots)) := by
  have hne := mem_ne HM H
  have hlt := lt_of_heap HM
  refine (mforce_by HM hk rv (fun v w' => Chg (foot p h c sv) w w' ∧ (∃ sv' cs', AM w' p h c sv' cs' (S.coll roots) ∧ ∀ k, sv'.ownBlock = some k → k ∈ foot p h c sv ∨ w.heap.size ≤ k) ∧
      w'.ownsRow w.heap.size 49 1 v roots.length (words (S.now roots))) ?_).mono ?_
  · refine (collect_am H rv roots hr hw hrl).mono ?_
    rintro e w' ⟨v, rfl, hc, ha, ho⟩
    obtain ⟨va, vc, rfl⟩ := ownsRow_slice ho
    exact ⟨va, _, vc, rfl, hc.get HM (fun hin => hne M hin rfl), hc, ha, ho⟩
  · rintro e w' ⟨v, w2, rfl, hm2, ⟨hc, ⟨sv', cs', ha, hs⟩, ho⟩, rfl⟩
    refine ⟨v, rfl, (hc.mono (by intro b hb; exact List.mem_cons_of_mem _ hb)).set _ (.inl (by simp)), heap_set hm2 _, ⟨sv', cs', ?_, hs⟩, ownsRow_set ho ?_ _⟩
    · refine ha.chg ((Chg.refl [M] w2).set _ (.inl (by simp))) ?_
      intro b hb hm
      simp only [List.mem_cons, List.not_mem_nil, or_false] at hm
      exact mem_ne hm2 ha b hb hm
    · intro hb
      have := (ho.lt M hb).1
      omega

set_option maxHeartbeats 4000000 in
set_option maxRecDepth 100000 in
theorem malloc_again {w : World} {M p h c : Nat} {k : Int} {sv : Value} {cs : List Int} {S : St} (HM : MemAt w M p k) (hk : 0 ≤ k ∧ k < 9223372036854775807) (H : AM w p h c sv cs S) (t m : Int) (ht : -9223372036854775808 ≤ t ∧ t ≤ 9223372036854775807)
    (rv : Value) (roots : List Int) (hr : w.ownsRow 0 49 1 rv roots.length (words roots)) (hrl : roots.length ≤ 1000000) (hw : ∀ x ∈ roots, Wd x) (hsep : ∀ b, rv.ownBlock = some b → b ∉ foot p h c sv) (he : allocErr S t m = 10)
    (hf : ¬ (S.n : Int) < (S.cells roots : Int) + m + 1) :
    Calls Try.prog 28 #[.pointer (some ⟨M, 0, none⟩), .int .i64 t, .int .i64 m, rv] w fun e w' => ∃ v, e = .returned (.tuple #[.int .u64 (layWord (S.coll roots) t m), v, .int .i64 (allocErr (S.coll roots) t m)]) ∧ Chg (M :: foot p h c sv) w w' ∧ MemAt w' M p (k + 1) ∧
      (∃ sv' ds, AM w' p h c sv' ds ((S.coll roots).lay t m) ∧ ∀ b, sv'.ownBlock = some b → b ∈ foot p h c sv ∨ w.heap.size ≤ b) ∧ w'.ownsRow w.heap.size 49 1 v roots.length (words (S.now roots)) := by
  have hne := mem_ne HM H
  have hlts := H.lts
  have hMlt := lt_of_heap HM
  have k0 := cell_at HM (o := 0) (v := .pointer (some ⟨p, 0, none⟩)) rfl
  have hal := alloc_am H t m ht
  have hlay : S.lay t m = S := by unfold St.lay; rw [if_neg (by omega)]
  have hm0 : 0 ≤ m ∧ m ≤ 4096 := by
    have h1 := allocErr_ask S t m
    rw [he] at h1
    unfold askErr at h1
    by_cases q1 : (t < 0 ∨ 199 < t) ∧ t ≠ 200 ∧ t ≠ 202
    · simp [q1] at h1
    · by_cases q2 : m < 0 ∨ 4096 < m
      · simp [q1, q2] at h1
      · omega
  have hcl : (S.cells roots : Int) ≤ 32768 := by
    have h1 := cells_le_span (S := S) roots
    have h2 := H.ok.fit
    have h3 := H.ok.n3
    omega
  rw [hlay, he] at hal
  obtain ⟨ra, rc, rfl⟩ := ownsRow_slice hr
  have HAL := Lib.hid hal
  have HR := Lib.hid hr
  have HMM := Lib.hid HM
  have HNE := Lib.hid hne
  have HLT := Lib.hid (And.intro hlts hMlt)
  have HW := Lib.hid hw
  have hw1 : IntKind.i64.wrap ((S.cells roots : Int) + m) = (S.cells roots : Int) + m := IntWalk.i64_in _ (by omega)
  have hw2 : IntKind.i64.wrap ((S.cells roots : Int) + m + 1) = (S.cells roots : Int) + m + 1 := IntWalk.i64_in _ (by omega)
  have hd : decide ((S.n : Int) < (S.cells roots : Int) + m + 1) = false := decide_eq_false hf
  have e0 : ((10 : Int) == 0) = false := rfl
  have e1 : ((10 : Int) != 10) = false := rfl
  clear hal HM hne H he hlay hr hf hm0 hcl hlts hMlt hw
  generalize layWord S t m = lw at HAL
  go_enter Try.func28, Try.ntmps28
  go_wp2_with fail
  refine HAL.out.mono ?_
  rintro e w1 ⟨rfl, hc1, sv1, ds1, hm1, hs1⟩
  have hr1 := ownsRow_chg HR.out hc1 hsep
  have HRE := Lib.hid (reach_am hm1 _ roots hr1 HW.out hrl)
  have k1 := cell_at (hc1.get HMM.out (fun hin => HNE.out M hin rfl)) (o := 0) (v := .pointer (some ⟨p, 0, none⟩)) rfl
  have HS1 := Lib.hid (And.intro hc1 (And.intro hm1 hs1))
  have HM1 := Lib.hid (show MemAt w1 M p k from hc1.get HMM.out (fun hin => HNE.out M hin rfl))
  have HR1 := Lib.hid hr1
  clear hc1 hm1 hs1 hr1 hsep
  go_wp2_with fail
  refine HRE.out.mono ?_
  rintro e w2 ⟨lv, rfl, hc2, hl2⟩
  obtain ⟨la, lc, rfl⟩ := ownsRow_slice hl2
  have hM2 : MemAt w2 M p k := hc2.get HM1.out (by simp)
  have hA2 := HS1.out.2.1.chg hc2 (by simp)
  have k2 := cell_at hM2 (o := 0) (v := .pointer (some ⟨p, 0, none⟩)) rfl
  have k3 := cell_at hA2.a (o := 0) (v := .pointer (some ⟨h, 0, none⟩)) rfl
  have HHF := Lib.hid (half_am hA2)
  have HFO := Lib.hid (mforce_am hM2 hk hA2 _ roots (ownsRow_chg HR1.out hc2 (by simp)) HW.out hrl)
  have HS2 := Lib.hid (And.intro hc2 (And.intro hM2 hA2))
  clear hc2 hl2 hM2 hA2 HRE
  go_wp2_with (go_at_call 54; refine HHF.out.mono ?_; rintro e w' ⟨rfl, hw'⟩; obtain rfl := hw'.symm)
  refine HFO.out.mono ?_
  rintro e w3 ⟨v3, rfl, hc3, hM3, ⟨sv3, ds3, hA3, hs3⟩, ho3⟩
  obtain ⟨va, vc, rfl⟩ := ownsRow_slice ho3
  have k4 := cell_at hM3 (o := 0) (v := .pointer (some ⟨p, 0, none⟩)) rfl
  have HAL3 := Lib.hid (alloc_am hA3 t m ht)
  have HNE3 := Lib.hid (mem_ne hM3 hA3)
  have HS3 := Lib.hid (And.intro hc3 (And.intro hM3 (And.intro hs3 ho3)))
  have HA3 := Lib.hid hA3
  clear hc3 hM3 hA3 hs3 ho3 HHF HFO HAL
  go_wp2_with fail
  refine HAL3.out.mono ?_
  rintro e w4 ⟨rfl, hc4, sv4, ds4, hm4, hs4⟩
  have HS4 := Lib.hid (And.intro hc4 (And.intro hm4 hs4))
  clear hc4 hm4 hs4
  go_wp2_with fail
  go_ret3
  obtain ⟨hc1, _, hs1⟩ := HS1.out
  obtain ⟨hc2, _, _⟩ := HS2.out
  obtain ⟨hc3, hM3, hs3, ho3⟩ := HS3.out
  obtain ⟨hc4, hm4, hs4⟩ := HS4.out
  have hf1 : ∀ b ∈ foot p h c sv1, b ∈ foot p h c sv ∨ w.heap.size ≤ b := by
    intro b hb
    unfold foot at hb ⊢
    simp only [List.mem_cons, Option.mem_toList] at hb ⊢
    rcases hb with rfl | rfl | rfl | hb
    · exact .inl (.inl rfl)
    · exact .inl (.inr (.inl rfl))
    · exact .inl (.inr (.inr (.inl rfl)))
    · rcases hs1 with e | ⟨b2, e, hb2⟩
      · exact .inl (.inr (.inr (.inr (e ▸ hb))))
      · rw [e] at hb; cases hb; exact .inr hb2
  have h12 := Nat.le_trans hc1.size hc2.size
  have hf3 : ∀ b ∈ foot p h c sv3, b ∈ foot p h c sv ∨ w.heap.size ≤ b := by
    intro b hb
    unfold foot at hb
    simp only [List.mem_cons, Option.mem_toList] at hb
    rcases hb with rfl | rfl | rfl | hb
    · exact .inl (by simp [foot])
    · exact .inl (by simp [foot])
    · exact .inl (by simp [foot])
    · rcases hs3 b hb with h5 | h5
      · exact hf1 b h5
      · exact .inr (by omega)
  refine ⟨_, rfl, ?_, hc4.get hM3 (fun hin => HNE3.out M hin rfl), ⟨sv4, ds4, hm4, ?_⟩, ?_⟩
  · refine Chg.over2 (Chg.over2 ((hc1.trans (hc2.mono (by simp))).mono (by intro b hb; exact List.mem_cons_of_mem _ hb)) hc3 ?_) hc4 ?_
    · intro b hb
      rw [List.mem_cons] at hb
      rcases hb with rfl | hb
      · exact .inl (by simp)
      · rcases hf1 b hb with h5 | h5
        · exact .inl (List.mem_cons_of_mem _ h5)
        · exact .inr h5
    · intro b hb
      rcases hf3 b hb with h5 | h5
      · exact .inl (List.mem_cons_of_mem _ h5)
      · exact .inr h5
  · intro b hb
    rcases hs4 with e | ⟨b2, e, hb2⟩
    · rw [e] at hb
      exact hf3 b (by simp [foot, hb])
    · rw [e] at hb; cases hb; exact .inr (Nat.le_trans (Nat.le_trans h12 hc3.size) hb2)
  · refine own_low (ownsRow_chg ho3 hc4 ?_) h12
    intro b hb hin
    have h6 := (ho3.lt b hb).1
    have hL := HS2.out.2.2.lts
    unfold foot at hin
    simp only [List.mem_cons, Option.mem_toList] at hin
    rcases hin with rfl | rfl | rfl | hin
    · have := hL b (by simp [foot]); omega
    · have := hL b (by simp [foot]); omega
    · have := hL b (by simp [foot]); omega
    · exact own_two HA3.out.starts ho3 (by decide) hin hb

end Go.Proofs.Ytleoedjjepkhgaa
