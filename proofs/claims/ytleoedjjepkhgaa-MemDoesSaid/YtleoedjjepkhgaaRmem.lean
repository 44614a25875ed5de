import Derived.Test.YtleoedjjepkhgaaRefc
import Derived.Test.YtleoedjjepkhgaaRget
import Derived.Test.YtleoedjjepkhgaaPlayV
import Derived.LaidEqlPtr
/- The reference's Mem: New, Force, Alloc. -/
namespace Go.Proofs.Ytleoedjjepkhgaa
open Go.RowKit

/-- at K lies the reference's Mem whose arena lies at q, and that has counted k collections -/
def MemR (w : World) (K q : Nat) (k : Int) : Prop := w.heap[K]? = some (.cells #[.pointer (some ⟨q, 0, none⟩), .int .i64 k] 62 (0, 0))

theorem row_at' {w : World} {base : Nat} {e : TypeId} {size g n cap : Nat} {xs : List Value} (H : w.ownsRow base e size (.slice (some ⟨g, 0, none⟩) n cap) n xs) :
    base ≤ g ∧ g < w.heap.size ∧ (∀ j u, xs[j]? = some u → w.cell? ⟨g, j, none⟩ = some u) ∧ ∀ j, w.frozen? ⟨g, j, none⟩ = false := by
  rcases H.2 with ⟨h, _⟩ | ⟨b, c, cur, h, hb, hh, hnc, hm, hs, ht⟩
  · cases h
  · simp only [Value.slice.injEq, Option.some.injEq, Addr.mk.injEq, true_and, and_true] at h
    obtain ⟨rfl, rfl⟩ := h
    refine ⟨hb, lt_of_heap hh, fun j u hj => ?_, fun j => free_at hh j⟩
    rw [← ht, List.getElem?_take] at hj
    split at hj
    · exact cell_at hh (by simpa using hj)
    · cases hj

set_option maxHeartbeats 2000000 in
set_option maxRecDepth 100000 in
theorem rmnew_in (n : Nat) (h1 : 2 ≤ n) (h2 : n ≤ 32768) (w : World) :
    Calls Try.prog 17 #[.int .i64 n] w fun e w' => ∃ K q lv fv, e = .returned (.pointer (some ⟨K, 0, none⟩)) ∧ Chg [] w w' ∧ MemR w' K q 0 ∧ RM w' q lv fv (St.fresh n) ∧
      w.heap.size ≤ K ∧ ∀ b ∈ rfoot q lv fv 0, w.heap.size ≤ b := by
  have HN := Lib.hid (rnew_in n h1 h2 w)
  go_enter Try.func17, Try.ntmps17
  go_wp2_with fail
  refine HN.out.mono ?_
  rintro e w1 ⟨rfl, hc1, hr1⟩
  have H1 := Lib.hid (And.intro hc1 hr1)
  have hsz := hc1.size
  have hq1 := lt_of_heap hr1.a
  clear hc1 hr1
  obtain ⟨q, hq⟩ : ∃ q, q = w.heap.size := ⟨_, rfl⟩
  rw [← hq] at H1 hq1 ⊢
  have HQ := Lib.hid hq
  clear hq
  go_wp2_with fail
  go_ret
  obtain ⟨hc1, hr1⟩ := H1.out
  have hc2 : Chg [] w1 (w1.alloc (.cells #[.pointer (some ⟨q, 0, none⟩), .int .i64 0] 62)) := (Chg.refl [] w1).alloc _
  refine ⟨w1.heap.size, q, _, _, rfl, hc1.trans hc2, heap_alloc_new w1 _, hr1.after hc2, hsz, fun b hb => ?_⟩
  simp [rfoot, Value.ownBlock] at hb
  have := HQ.out
  omega

theorem rmnew_out (n : Int) (hn : n < 2 ∨ 32768 < n) (w : World) :
    Calls Try.prog 17 #[.int .i64 n] w fun e w' => e = .returned (.pointer none) ∧ w' = w := by
  have HN := Lib.hid (rnew_out n hn w)
  go_enter Try.func17, Try.ntmps17
  go_wp2_with fail
  refine HN.out.mono ?_
  rintro e w1 ⟨rfl, hw⟩
  obtain rfl := hw.symm
  go_wp2_with fail
  go_ret
  exact ⟨rfl, rfl⟩

theorem rmem_ne {w : World} {K q : Nat} {k : Int} {lv : Value} {fv : Nat → Value} {S : St} (HM : MemR w K q k) (H : RM w q lv fv S) : ∀ j ∈ rfoot q lv fv S.L.length, j ≠ K := by
  intro j hj e
  subst e
  unfold rfoot at hj
  simp only [List.mem_cons, List.mem_append, List.mem_flatMap, List.mem_range, Option.mem_toList] at hj
  rcases hj with rfl | hj | ⟨i, hi, hj⟩
  · exact row_ne H.a HM (by decide) rfl
  · exact own_ne' H.row HM (by decide) hj
  · exact own_ne' (H.fvs i hi) HM (by decide) hj

set_option maxHeartbeats 2000000 in
set_option maxRecDepth 100000 in
/-- a collection -/
theorem rmforce_am {w : World} {K q : Nat} {k : Int} {lv : Value} {fv : Nat → Value} {S : St} (HM : MemR w K q k) (hk : 0 ≤ k ∧ k < 9223372036854775807) (H : RM w q lv fv S)
    (rv : Value) (roots : List Int) (hr : w.ownsRow 0 49 1 rv roots.length (words roots)) (hsep : rv.ownBlock ≠ some K) (hw : ∀ x ∈ roots, Wd x) (hrl : roots.length ≤ 1000000) :
    Calls Try.prog 42 #[.pointer (some ⟨K, 0, none⟩), rv] w fun e w' => ∃ v lv' fv', e = .returned v ∧ Chg (K :: rfoot q lv fv S.L.length) w w' ∧ MemR w' K q (k + 1) ∧
      RM w' q lv' fv' (S.coll roots) ∧ w'.ownsRow w.heap.size 49 1 v roots.length (words (S.now roots)) ∧ (∀ b ∈ rfoot q lv' fv' (S.coll roots).L.length, b = q ∨ w.heap.size ≤ b) ∧ ∀ b, v.ownBlock = some b → b ∉ rfoot q lv' fv' (S.coll roots).L.length := by
  have k0 := cell_at HM (o := 0) rfl
  have k1 := cell_at HM (o := 1) rfl
  have z1 := free_at HM 1
  have hKl := lt_of_heap HM
  have hset : Chg [K] w (w.setCell ⟨K, 1, none⟩ (.int .i64 (k + 1))) := (Chg.refl [K] w).set _ (.inl (by simp))
  have hm1 : MemR (w.setCell ⟨K, 1, none⟩ (.int .i64 (k + 1))) K q (k + 1) := heap_set HM _
  have hne := rmem_ne HM H
  have h1 : RM (w.setCell ⟨K, 1, none⟩ (.int .i64 (k + 1))) q lv fv S := H.chg hset (fun b hb hm => hne b hb (by simpa using hm))
  have hr1 := ownsRow_set hr hsep (o := 1) (.int .i64 (k + 1))
  obtain ⟨ra, rc, rfl⟩ := ownsRow_slice hr
  have HCO := Lib.hid (rcollect_am h1 _ roots hr1 hw hrl)
  have HS := Lib.hid (And.intro hset (And.intro hm1 hne))
  have hw1 : IntKind.i64.wrap (k + 1) = k + 1 := IntWalk.i64_in _ (by omega)
  have m0 := cell_at hm1 (o := 0) rfl
  have hql : q ≠ K := hne q (by simp [rfoot])
  clear HM H h1 hr1 hr hset hm1 hne
  go_enter Try.func42, Try.ntmps42
  go_wp2_with fail
  refine HCO.out.mono ?_
  rintro e w2 ⟨ov, lv', fv', rfl, hrm, hc, ho, hf, hf2⟩
  obtain ⟨oa, oc, rfl⟩ := ownsRow_slice ho
  have H2 := Lib.hid (And.intro hrm (And.intro hc (And.intro ho (And.intro hf hf2))))
  clear hrm hc ho hf hf2 HCO
  go_wp2_with fail
  go_ret
  obtain ⟨hrm, hc, ho, hf, hf2⟩ := H2.out
  obtain ⟨s1, s2, s3⟩ := HS.out
  refine ⟨_, lv', fv', rfl, ?_, hc.get s2 (by simp; exact fun e => hql e.symm), hrm, own_low ho (by rw [size_set]; exact Nat.le_refl _), fun b hb => (hf b hb).imp id (fun h => by rw [size_set] at h; exact h), hf2⟩
  exact (s1.mono (by simp)).trans (hc.mono (by simp [rfoot]))

set_option maxHeartbeats 4000000 in
set_option maxRecDepth 100000 in
theorem rmalloc_room {w : World} {K q : Nat} {k : Int} {lv : Value} {fv : Nat → Value} {S : St} (HM : MemR w K q k) (H : RM w q lv fv S) (t m : Int)
    (g cap : Nat) (roots : List Int) (hr : w.ownsRow 0 49 1 (.slice (some ⟨g, 0, none⟩) roots.length cap) roots.length (words roots)) (hrl : roots.length ≤ 1000000) (hsep : g ∉ rfoot q lv fv S.L.length) (he : allocErr S t m = 0) :
    Calls Try.prog 41 #[.pointer (some ⟨K, 0, none⟩), .int .i64 t, .int .i64 m, .slice (some ⟨g, 0, none⟩) roots.length cap] w fun e w' => ∃ v lv' fv', e = .returned (.tuple #[.int .u64 (layWord S t m), v, .int .i64 0]) ∧ Chg (rfoot q lv fv S.L.length) w w' ∧ MemR w' K q k ∧
      RM w' q lv' fv' (S.lay t m) ∧ (∀ b ∈ rfoot q lv' fv' (S.lay t m).L.length, b ∈ rfoot q lv fv S.L.length ∨ w.heap.size ≤ b) ∧ w'.ownsRow w.heap.size 49 1 v roots.length (words roots) ∧ ∀ b, v.ownBlock = some b → b ∉ rfoot q lv' fv' (S.lay t m).L.length := by
  have hne := rmem_ne HM H
  have k0 := cell_at HM (o := 0) (v := .pointer (some ⟨q, 0, none⟩)) rfl
  have hal := ralloc_am H t m
  rw [he] at hal
  have HAL := Lib.hid hal
  have HR := Lib.hid hr
  have HMM := Lib.hid HM
  have HNE := Lib.hid hne
  have HH := Lib.hid H
  have e0 : ((0 : Int) == 0) = true := rfl
  obtain ⟨i0, hi, hz0, hz1, hz2⟩ := info_parts info_word
  have HSEP := Lib.hid hsep
  clear hal hr HM hne H hsep
  go_enter Try.func41, Try.ntmps41
  go_wp2_with fail
  refine HAL.out.mono ?_
  rintro e w1 ⟨rfl, hc1, lv1, fv1, hm1, hs1⟩
  have hr1 := ownsRow_chg HR.out hc1 (fun b hb hm => by have e : b = g := by simpa [Value.ownBlock] using hb.symm
                                                        subst e; exact HSEP.out hm)
  have hmem1 : MemR w1 K q k := hc1.get HMM.out (fun hin => HNE.out K hin rfl)
  have HS1 := Lib.hid (And.intro hc1 (And.intro hm1 (And.intro hs1 (And.intro hmem1 hr1))))
  have hsz1 := hc1.size
  have hown0 := Lib.hid (show (w1.alloc (.cells #[] 49)).ownsRow w1.heap.size 49 1 (.slice (some ⟨w1.heap.size, 0, none⟩) 0 0) 0 [] from
    ⟨rfl, .inr ⟨w1.heap.size, 0, #[], rfl, Nat.le_refl _, heap_alloc_new w1 _, Nat.le_refl _, by unfold maxLen; omega, rfl, rfl⟩⟩)
  have hnews := Lib.hid (show ∀ j u, (words roots)[j]? = some u → (w1.alloc (.cells #[] 49)).cell? ((⟨g, 0, none⟩ : Addr).add j) = some u by
    intro j u hu
    have hadd : (⟨g, 0, none⟩ : Addr).add j = ⟨g, j, none⟩ := by unfold Addr.add; split <;> simp_all
    obtain ⟨_, hgl, hcl, _⟩ := row_at' (hr1.alloc (.cells #[] 49))
    rw [hadd]
    exact hcl j u hu)
  have hone := Lib.hid (show ∀ u ∈ words roots, u.oneCell' = true from ints_oneCell .u64 _)
  have hwl := Lib.hid (show (words roots).length = roots.length * 1 by simp [words])
  clear hc1 hm1 hs1 hmem1 hr1 k0 HAL HR
  go_wp2_with (at_builtin; go_loud (refine wpList_append_own_at _ rfl _ _ 28 rfl w1.heap.size 49 i0 (.int .u64 0) 1 8 Try.underlying28 hi hz0 hz1 hz2 rfl (by decide) _ 0 [] rfl hown0.out ⟨g, 0, none⟩ roots.length cap (words roots) rfl hwl.out hnews.out hone.out (by unfold maxLen; omega) (by omega) (by simp) ?_); intro v' w4 hown4 hgrow4 hnil hloc; have HG4 := Lib.hid (And.intro hown4 (show (w1.alloc (.cells #[] 49)).grownBy w4 (some w1.heap.size) from hgrow4)); obtain ⟨va, vc, hv'⟩ := ownsRow_slice hown4; clear hown4 hgrow4 hnil hloc; subst hv')
  go_ret3
  obtain ⟨hown4, hgrow4⟩ := HG4.out
  rw [Nat.zero_add, List.nil_append] at hown4
  obtain ⟨hc1, hm1, hs1, hmem1, _⟩ := HS1.out
  have hc4 : Chg [] w1 w4 := ((Chg.refl [] w1).alloc _).grown hgrow4 (fun k hk => .inr (by have : w1.heap.size = k := Option.some.inj hk
                                                                                           omega))
  exact ⟨_, lv1, fv1, rfl, hc1.trans (hc4.mono (by simp)), hc4.get hmem1 (by simp), hm1.after hc4, hs1, own_low hown4 hsz1, fun b hb hm => by
    have h1 := (hown4.lt b hb).1
    have h2 := hm1.lts b hm
    omega⟩

set_option maxHeartbeats 4000000 in
set_option maxRecDepth 100000 in
theorem rmalloc_bad {w : World} {K q : Nat} {k : Int} {lv : Value} {fv : Nat → Value} {S : St} (HM : MemR w K q k) (H : RM w q lv fv S) (t m : Int)
    (ra : Option Addr) (n rc : Nat) (he : allocErr S t m ≠ 0) (he2 : allocErr S t m ≠ 10) :
    Calls Try.prog 41 #[.pointer (some ⟨K, 0, none⟩), .int .i64 t, .int .i64 m, .slice ra n rc] w fun e w' => ∃ lv' fv', e = .returned (.tuple #[.int .u64 0, .slice none 0 0, .int .i64 (allocErr S t m)]) ∧ Chg (rfoot q lv fv S.L.length) w w' ∧ MemR w' K q k ∧
      RM w' q lv' fv' S ∧ ∀ b ∈ rfoot q lv' fv' S.L.length, b ∈ rfoot q lv fv S.L.length ∨ w.heap.size ≤ b := by
  have hne := rmem_ne HM H
  have k0 := cell_at HM (o := 0) (v := .pointer (some ⟨q, 0, none⟩)) rfl
  have hal := ralloc_am H t m
  have hlay : S.lay t m = S := by unfold St.lay; rw [if_neg he]
  rw [hlay] at hal
  have HAL := Lib.hid hal
  have HMM := Lib.hid HM
  have HNE := Lib.hid hne
  have e0 : (allocErr S t m == 0) = false := beq_eq_false_iff_ne.2 he
  have e1 : (allocErr S t m != 10) = true := bne_iff_ne.2 he2
  clear hal HM hne H he he2 hlay
  generalize layWord S t m = lw at HAL
  generalize allocErr S t m = er at HAL e0 e1 ⊢
  go_enter Try.func41, Try.ntmps41
  go_wp2_with fail
  refine HAL.out.mono ?_
  rintro e w1 ⟨rfl, hc1, lv1, fv1, hm1, hs1⟩
  have HS1 := Lib.hid (And.intro hc1 (And.intro hm1 hs1))
  clear hc1 hm1 hs1
  go_wp2_with fail
  go_ret3
  obtain ⟨hc1, hm1, hs1⟩ := HS1.out
  exact ⟨lv1, fv1, rfl, hc1, hc1.get HMM.out (fun hin => HNE.out K hin rfl), hm1, hs1⟩

/-- what is asked for is well, and there is no room -/
theorem full_ask {S : St} {t m : Int} (he : allocErr S t m = 10) : 0 ≤ m ∧ m ≤ 4096 := by
  have h1 := allocErr_ask S t m
  rw [he] at h1
  unfold askErr at h1
  by_cases q1 : (t < 0 ∨ 199 < t) ∧ t ≠ 200 ∧ t ≠ 202
  · simp [q1] at h1
  · by_cases q2 : m < 0 ∨ 4096 < m
    · simp [q1, q2] at h1
    · omega

set_option maxHeartbeats 4000000 in
set_option maxRecDepth 100000 in
theorem rmalloc_full {w : World} {K q : Nat} {k : Int} {lv : Value} {fv : Nat → Value} {S : St} (HM : MemR w K q k) (H : RM w q lv fv S) (t m : Int)
    (rv : Value) (roots : List Int) (hr : w.ownsRow 0 49 1 rv roots.length (words roots)) (hrl : roots.length ≤ 1000000) (hw : ∀ x ∈ roots, Wd x) (hsep : ∀ b, rv.ownBlock = some b → b ∉ rfoot q lv fv S.L.length) (he : allocErr S t m = 10)
    (hf : (S.n : Int) < (S.cells roots : Int) + m + 1) :
    Calls Try.prog 41 #[.pointer (some ⟨K, 0, none⟩), .int .i64 t, .int .i64 m, rv] w fun e w' => ∃ lv' fv', e = .returned (.tuple #[.int .u64 0, .slice none 0 0, .int .i64 10]) ∧ Chg (rfoot q lv fv S.L.length) w w' ∧ MemR w' K q k ∧
      RM w' q lv' fv' S ∧ ∀ b ∈ rfoot q lv' fv' S.L.length, b ∈ rfoot q lv fv S.L.length ∨ w.heap.size ≤ b := by
  have hne := rmem_ne HM H
  have k0 := cell_at HM (o := 0) (v := .pointer (some ⟨q, 0, none⟩)) rfl
  have hal := ralloc_am H t m
  have hlay : S.lay t m = S := by unfold St.lay; rw [if_neg (by omega)]
  have hm0 := full_ask he
  have hcl : (S.cells roots : Int) ≤ 32768 := by
    have h1 := cells_le_span (S := S) roots
    have h2 := H.ok.fit
    have h3 := H.ok.n3
    omega
  rw [hlay, he] at hal
  obtain ⟨ra, rc, rfl⟩ := ownsRow_slice hr
  have HAL := Lib.hid hal
  have HR := Lib.hid hr
  have HMM := Lib.hid HM
  have HNE := Lib.hid hne
  have hw1 : IntKind.i64.wrap ((S.cells roots : Int) + m) = (S.cells roots : Int) + m := IntWalk.i64_in _ (by omega)
  have hw2 : IntKind.i64.wrap ((S.cells roots : Int) + m + 1) = (S.cells roots : Int) + m + 1 := IntWalk.i64_in _ (by omega)
  have hd : decide ((S.n : Int) < (S.cells roots : Int) + m + 1) = true := decide_eq_true hf
  have e0 : ((10 : Int) == 0) = false := rfl
  have e1 : ((10 : Int) != 10) = false := rfl
  clear hal HM hne H he hlay hr hf hm0 hcl
  generalize layWord S t m = lw at HAL
  go_enter Try.func41, Try.ntmps41
  go_wp2_with fail
  refine HAL.out.mono ?_
  rintro e w1 ⟨rfl, hc1, lv1, fv1, hm1, hs1⟩
  have hr1 := ownsRow_chg HR.out hc1 hsep
  have HRE := Lib.hid (rreach_am hm1 _ roots hr1 hw hrl)
  have hmem1 : MemR w1 K q k := hc1.get HMM.out (fun hin => HNE.out K hin rfl)
  have k1 := cell_at hmem1 (o := 0) (v := .pointer (some ⟨q, 0, none⟩)) rfl
  have HS1 := Lib.hid (And.intro hc1 (And.intro hm1 hs1))
  have HM1 := Lib.hid hmem1
  clear hc1 hm1 hs1 hr1 hsep hmem1
  go_wp2_with fail
  refine HRE.out.mono ?_
  rintro e w2 ⟨xv, rfl, hc2, hl2⟩
  obtain ⟨la, lc, rfl⟩ := ownsRow_slice hl2
  have hM2 : MemR w2 K q k := hc2.get HM1.out (by simp)
  have hA2 := HS1.out.2.1.after hc2
  have k2 := cell_at hM2 (o := 0) (v := .pointer (some ⟨q, 0, none⟩)) rfl
  have k3 := hA2.fields.1
  have HS2 := Lib.hid (And.intro hc2 (And.intro hM2 hA2))
  clear hc2 hl2 hM2 hA2 HRE
  go_wp2_with fail
  go_ret3
  obtain ⟨hc1, _, hs1⟩ := HS1.out
  obtain ⟨hc2, hM2, hA2⟩ := HS2.out
  exact ⟨lv1, fv1, rfl, hc1.trans (hc2.mono (by simp)), hM2, hA2, hs1⟩

set_option maxHeartbeats 4000000 in
set_option maxRecDepth 100000 in
theorem rmalloc_again {w : World} {K q : Nat} {k : Int} {lv : Value} {fv : Nat → Value} {S : St} (HM : MemR w K q k) (hk : 0 ≤ k ∧ k < 9223372036854775807) (H : RM w q lv fv S) (t m : Int)
    (rv : Value) (roots : List Int) (hr : w.ownsRow 0 49 1 rv roots.length (words roots)) (hrl : roots.length ≤ 1000000) (hw : ∀ x ∈ roots, Wd x) (hsep : ∀ b, rv.ownBlock = some b → b ∉ K :: rfoot q lv fv S.L.length) (he : allocErr S t m = 10)
    (hf : ¬ (S.n : Int) < (S.cells roots : Int) + m + 1) :
    Calls Try.prog 41 #[.pointer (some ⟨K, 0, none⟩), .int .i64 t, .int .i64 m, rv] w fun e w' => ∃ v lv' fv', e = .returned (.tuple #[.int .u64 (layWord (S.coll roots) t m), v, .int .i64 (allocErr (S.coll roots) t m)]) ∧ Chg (K :: rfoot q lv fv S.L.length) w w' ∧ MemR w' K q (k + 1) ∧
      RM w' q lv' fv' ((S.coll roots).lay t m) ∧ (∀ b ∈ rfoot q lv' fv' ((S.coll roots).lay t m).L.length, b ∈ rfoot q lv fv S.L.length ∨ w.heap.size ≤ b) ∧ w'.ownsRow w.heap.size 49 1 v roots.length (words (S.now roots)) ∧
      ∀ b, v.ownBlock = some b → b ∉ rfoot q lv' fv' ((S.coll roots).lay t m).L.length := by
  have hne := rmem_ne HM H
  have k0 := cell_at HM (o := 0) (v := .pointer (some ⟨q, 0, none⟩)) rfl
  have hal := ralloc_am H t m
  have hlay : S.lay t m = S := by unfold St.lay; rw [if_neg (by omega)]
  have hm0 := full_ask he
  have hcl : (S.cells roots : Int) ≤ 32768 := by
    have h1 := cells_le_span (S := S) roots
    have h2 := H.ok.fit
    have h3 := H.ok.n3
    omega
  rw [hlay, he] at hal
  obtain ⟨ra, rc, rfl⟩ := ownsRow_slice hr
  have HAL := Lib.hid hal
  have HR := Lib.hid hr
  have HMM := Lib.hid HM
  have HNE := Lib.hid hne
  have HW := Lib.hid hw
  have HSEP := Lib.hid hsep
  have hKl := lt_of_heap HM
  have hlts := Lib.hid H.lts
  have hw1 : IntKind.i64.wrap ((S.cells roots : Int) + m) = (S.cells roots : Int) + m := IntWalk.i64_in _ (by omega)
  have hw2 : IntKind.i64.wrap ((S.cells roots : Int) + m + 1) = (S.cells roots : Int) + m + 1 := IntWalk.i64_in _ (by omega)
  have hd : decide ((S.n : Int) < (S.cells roots : Int) + m + 1) = false := decide_eq_false hf
  have e0 : ((10 : Int) == 0) = false := rfl
  have e1 : ((10 : Int) != 10) = false := rfl
  clear hal HM hne H he hlay hr hf hm0 hcl hw hsep
  generalize layWord S t m = lw at HAL
  go_enter Try.func41, Try.ntmps41
  go_wp2_with fail
  refine HAL.out.mono ?_
  rintro e w1 ⟨rfl, hc1, lv1, fv1, hm1, hs1⟩
  have hr1 := ownsRow_chg HR.out hc1 (fun b hb hm => HSEP.out b hb (List.mem_cons_of_mem _ hm))
  have HRE := Lib.hid (rreach_am hm1 _ roots hr1 HW.out hrl)
  have hmem1 : MemR w1 K q k := hc1.get HMM.out (fun hin => HNE.out K hin rfl)
  have k1 := cell_at hmem1 (o := 0) (v := .pointer (some ⟨q, 0, none⟩)) rfl
  have HS1 := Lib.hid (And.intro hc1 (And.intro hm1 hs1))
  have HM1 := Lib.hid hmem1
  have HR1 := Lib.hid hr1
  clear hc1 hm1 hs1 hr1 hmem1
  go_wp2_with fail
  refine HRE.out.mono ?_
  rintro e w2 ⟨xv, rfl, hc2, hl2⟩
  obtain ⟨la, lc, rfl⟩ := ownsRow_slice hl2
  have hM2 : MemR w2 K q k := hc2.get HM1.out (by simp)
  have hA2 := HS1.out.2.1.after hc2
  have k2 := cell_at hM2 (o := 0) (v := .pointer (some ⟨q, 0, none⟩)) rfl
  have k3 := hA2.fields.1
  have HFO := Lib.hid (rmforce_am hM2 hk hA2 _ roots (ownsRow_chg HR1.out hc2 (by simp)) (fun e => HSEP.out K e (by simp)) HW.out hrl)
  have HS2 := Lib.hid (And.intro hc2 (And.intro hM2 hA2))
  clear hc2 hl2 hM2 hA2 HRE
  go_wp2_with fail
  refine HFO.out.mono ?_
  rintro e w3 ⟨v3, lv3, fv3, rfl, hc3, hM3, hA3, ho3, hs3, hf3⟩
  have HF3 := Lib.hid hf3
  clear hf3
  obtain ⟨va, vc, rfl⟩ := ownsRow_slice ho3
  have k4 := cell_at hM3 (o := 0) (v := .pointer (some ⟨q, 0, none⟩)) rfl
  have HAL3 := Lib.hid (ralloc_am hA3 t m)
  have HNE3 := Lib.hid (rmem_ne hM3 hA3)
  have HS3 := Lib.hid (And.intro hc3 (And.intro hM3 (And.intro hs3 ho3)))
  have HA3 := Lib.hid hA3
  clear hc3 hM3 hA3 hs3 ho3 HFO HAL
  go_wp2_with fail
  refine HAL3.out.mono ?_
  rintro e w4 ⟨rfl, hc4, lv4, fv4, hm4, hs4⟩
  have HS4 := Lib.hid (And.intro hc4 (And.intro hm4 hs4))
  clear hc4 hm4 hs4
  go_wp2_with fail
  go_ret3
  obtain ⟨hc1, _, hs1⟩ := HS1.out
  obtain ⟨hc2, hM2, hA2⟩ := HS2.out
  obtain ⟨hc3, hM3, hs3, ho3⟩ := HS3.out
  obtain ⟨hc4, hm4, hs4⟩ := HS4.out
  have hs12 := Nat.le_trans hc1.size hc2.size
  have hs123 := Nat.le_trans hs12 hc3.size
  have hlt2 := hA2.lts
  have h3 : ∀ b ∈ rfoot q lv3 fv3 (S.coll roots).L.length, b ∈ rfoot q lv fv S.L.length ∨ w.heap.size ≤ b := by
    intro b hb
    rcases hs3 b hb with e | e
    · subst e; exact .inl (by simp [rfoot])
    · exact .inr (by omega)
  refine ⟨_, lv4, fv4, rfl, ?_, hc4.get hM3 (fun hin => HNE3.out K hin rfl), hm4, ?_, ?_, ?_⟩
  · refine Chg.over2 (Chg.over2 ((hc1.trans (hc2.mono (by simp))).mono (by intro b hb; exact List.mem_cons_of_mem _ hb)) hc3 ?_) hc4 ?_
    · intro b hb
      rw [List.mem_cons] at hb
      rcases hb with rfl | hb
      · exact .inl (by simp)
      · exact (hs1 b hb).imp (fun h => List.mem_cons_of_mem _ h) id
    · intro b hb
      exact (h3 b hb).imp (fun h => List.mem_cons_of_mem _ h) id
  · intro b hb
    rcases hs4 b hb with h | h
    · exact h3 b h
    · exact .inr (by omega)
  · exact own_low (ownsRow_chg ho3 hc4 HF3.out) hs12
  · intro b hb hin
    have h6 := (ho3.lt b hb).2
    rcases hs4 b hin with h | h
    · exact HF3.out b hb h
    · omega

end Go.Proofs.Ytleoedjjepkhgaa
