import Derived.Test.YtkjggomkkfknhaaSame
/- The laws' awake. -/
namespace Go.Proofs.Ytkjggomkkfknhaa
open Go.RowKit

def LA : List Bk := [(1, [1, 0]), (2, [2097167]), (0, [])]
def SA : St := ⟨20, 0, [⟨1, [8, 2]⟩, ⟨2, [2097167]⟩, ⟨0, []⟩]⟩

theorem sa_is : layS 20 LA = SA := by kernel_rfl
theorem sa_reach : SA.reach [2] = [0, 1] := by kernel_rfl
theorem sa_cells : SA.cells [2] = 5 := by kernel_rfl
theorem sa_ptrs : ptrs SA (SA.reach [2]) = [2, 8] := by kernel_rfl
theorem sa_now : SA.now [3, 8, 2] = [3, 42, 46] := by kernel_rfl
theorem sa_base : (SA.coll [3, 8, 2]).base = 20 := by kernel_rfl
theorem sa_top : (SA.coll [3, 8, 2]).top = 25 := by kernel_rfl

theorem la_ok : BksOk LA := by
  refine ⟨fun k => ?_, fun k => ?_, fun k => ?_, by decide⟩
  · match k with
    | 0 => decide
    | 1 => decide
    | 2 => decide
    | k + 3 => show (-9223372036854775808 : Int) ≤ 0 ∧ (0 : Int) ≤ 9223372036854775807; decide
  · match k with
    | 0 => decide
    | 1 => decide
    | 2 => decide
    | k + 3 => show ([] : List Int).length ≤ _; decide
  · match k with
    | 0 => intro x hx; unfold Wd; revert x; decide
    | 1 => intro x hx; unfold Wd; revert x; decide
    | 2 => intro x hx; cases hx
    | k + 3 => intro x hx; cases hx

/-- the literal list, in memory -/
theorem rdb_la {w : World} {g0 g1 g2 : Nat} (h0 : w.heap[g0]? = some (.cells #[.int .u64 1, .int .u64 0] 52 (0, 0))) (h1 : w.heap[g1]? = some (.cells #[.int .u64 2097167] 52 (0, 0)))
    (h2 : w.heap[g2]? = some (.cells #[.int .i64 1, .slice (some ⟨g0, 0, none⟩) 2 2, .int .i64 2, .slice (some ⟨g1, 0, none⟩) 1 1, .int .i64 0, .slice none 0 0] 61 (0, 0))) : RdB w (some ⟨g2, 0, none⟩) LA := by
  intro k hk
  have l2 := lt_of_heap h2
  match k, hk with
  | 0, _ =>
    refine ⟨⟨g2, 0, none⟩, some ⟨g0, 0, none⟩, 2, rfl, l2, cell_at h2 rfl, cell_at h2 rfl, ?_⟩
    intro j hj
    refine ⟨⟨g0, 0, none⟩, rfl, lt_of_heap h0, ?_⟩
    match j, hj with
    | 0, _ => exact cell_at h0 rfl
    | 1, _ => exact cell_at h0 rfl
  | 1, _ =>
    refine ⟨⟨g2, 0, none⟩, some ⟨g1, 0, none⟩, 1, rfl, l2, cell_at h2 rfl, cell_at h2 rfl, ?_⟩
    intro j hj
    refine ⟨⟨g1, 0, none⟩, rfl, lt_of_heap h1, ?_⟩
    match j, hj with
    | 0, _ => exact cell_at h1 rfl
  | 2, _ =>
    refine ⟨⟨g2, 0, none⟩, none, 0, rfl, l2, cell_at h2 rfl, cell_at h2 rfl, ?_⟩
    intro j hj
    cases hj

set_option maxHeartbeats 2000000 in
set_option maxRecDepth 100000 in
theorem awake_am (W : World) : Calls Try.prog 9 #[] W fun e w' => e = .returned (.bool true) ∧ Chg [] W w' := by
  obtain ⟨w3, hw3⟩ : ∃ o, o = ((W.alloc (Obj.cells #[Value.int IntKind.u64 1, Value.int IntKind.u64 0] 52)).alloc (Obj.cells #[Value.int IntKind.u64 2097167] 52)).alloc (Obj.cells #[Value.int IntKind.i64 1, Value.slice (some ⟨W.heap.size, 0, none⟩) 2 2, Value.int IntKind.i64 2, Value.slice (some ⟨W.heap.size + 1, 0, none⟩) 1 1, Value.int IntKind.i64 0, Value.slice none 0 0] 61) := ⟨_, rfl⟩
  have hch : Chg [] W w3 := by rw [hw3]; exact (((Chg.refl [] W).alloc _).alloc _).alloc _
  have hrd : RdB w3 (some ⟨W.heap.size + 1 + 1, 0, none⟩) LA := by
    rw [hw3]
    refine rdb_la (g0 := W.heap.size) (g1 := W.heap.size + 1) ?_ ?_ (heap_at_new _ _ (by simp only [size_alloc]))
    · iterate 2 rw [Below.heap_alloc _ _ _ (by simp only [size_alloc]; omega)]
      exact heap_alloc_new _ _
    · rw [Below.heap_alloc _ _ _ (by simp only [size_alloc]; omega)]
      exact heap_at_new _ _ (by simp only [size_alloc])
  have HL := Lib.hid (lay_in (W := w3) 20 (by omega) (by omega) (some ⟨W.heap.size + 1 + 1, 0, none⟩) 3 LA hrd la_ok)
  have HC := Lib.hid hch
  clear hch hrd
  go_enter Try.func9, Try.ntmps9
  go_wp2_with fail
  rw [← hw3]
  clear hw3
  refine HL.out.mono ?_
  rintro e w4 ⟨p, q, rfl, ht4⟩
  rw [sa_is] at ht4
  have HT := Lib.hid ht4
  clear ht4
  obtain ⟨h, c, sv, cs, lv, fv, hm, _, _, hf4, _⟩ := HT.out.ex
  have HF4 := Lib.hid hf4
  clear hf4
  have HB := Lib.hid (blocks_am hm)
  have hn3 : ((3 : Int) != 3) = false := rfl
  have HM := Lib.hid hm
  clear hm
  go_wp2_with fail
  refine HB.out.mono ?_
  rintro e w5 ⟨bv, rfl, hc5, hb5⟩
  obtain ⟨ba, bc, rfl⟩ := ownsRow_slice hb5
  have hc45 := HT.out.chg.trans hc5
  have HM5 := Lib.hid (HM.out.chg hc5 (by simp))
  have hlen : SA.blocks.length = 3 := by kernel_rfl
  rw [hlen]
  have HC5 := Lib.hid hc45
  clear hc5 hb5 hc45
  have hr2 : (w5.alloc (.cells #[.int .u64 2] 52)).ownsRow 0 52 1 (.slice (some ⟨w5.heap.size, 0, none⟩) 1 1) [(2 : Int)].length (words [2]) :=
    ⟨rfl, .inr ⟨w5.heap.size, 1, _, rfl, Nat.zero_le _, heap_alloc_new w5 _, Nat.le_refl _, by unfold maxLen; omega, rfl, rfl⟩⟩
  have HRE := Lib.hid (reach_am (HM5.out.chg ((Chg.refl [] w5).alloc (.cells #[.int .u64 2] 52)) (by simp)) _ [2] hr2 (by intro x hx; simp at hx; subst hx; unfold Wd; omega) (by simp))
  clear hr2
  go_wp2_with fail
  refine HRE.out.mono ?_
  rintro e w6 ⟨rv, rfl, hc6, hr6⟩
  rw [sa_ptrs, sa_reach] at hr6
  rw [sa_cells]
  obtain ⟨ra, rc, rfl⟩ := ownsRow_slice hr6
  have hc56 : Chg [] w5 w6 := ((Chg.refl [] w5).alloc _).trans hc6
  have HM6 := Lib.hid (HM5.out.chg hc56 (by simp))
  have HC6 := Lib.hid (HC5.out.trans hc56)
  have HR6 := Lib.hid hr6
  clear hc6 hr6 hc56
  have hr3 : (w6.alloc (.cells #[.int .u64 3, .int .u64 8, .int .u64 2] 52)).ownsRow 0 52 1 (.slice (some ⟨w6.heap.size, 0, none⟩) 3 3) [(3 : Int), 8, 2].length (words [3, 8, 2]) :=
    ⟨rfl, .inr ⟨w6.heap.size, 3, _, rfl, Nat.zero_le _, heap_alloc_new w6 _, Nat.le_refl _, by unfold maxLen; omega, rfl, rfl⟩⟩
  have HCO := Lib.hid (collect_am (HM6.out.chg ((Chg.refl [] w6).alloc (.cells #[.int .u64 3, .int .u64 8, .int .u64 2] 52)) (by simp)) _ [3, 8, 2] hr3 (by intro x hx; simp at hx; unfold Wd; omega) (by simp))
  clear hr3
  go_wp2_with fail
  refine HCO.out.mono ?_
  rintro e w7 ⟨cv, rfl, hc7, ⟨sv7, cs7, hm7, _⟩, hr7⟩
  rw [sa_now] at hr7
  obtain ⟨ca, cc, rfl⟩ := ownsRow_slice hr7
  have hlt5 := HM5.out.lts
  have hr67 := ownsRow_chg (ownsRow_chg HR6.out ((Chg.refl [] w6).alloc (.cells #[.int .u64 3, .int .u64 8, .int .u64 2] 52)) (by simp)) hc7 (fun k hk hm => by have h1 := (HR6.out.lt k hk).1; have h2 := hlt5 k hm; simp only [size_alloc] at h1; omega)
  have hfp : ∀ k ∈ foot p h c sv, W.heap.size ≤ k := fun k hk => Nat.le_trans HC.out.size (HF4.out k hk)
  have hc57 : Chg [] W w7 := (HC.out.trans HC6.out |>.alloc _).over hc7 hfp
  have HM7 := Lib.hid hm7
  have HR7 := Lib.hid hr7
  have HR67 := Lib.hid hr67
  have HC7 := Lib.hid hc57
  clear hm7 hr7 hr67 hc57 hc7 hlt5 hfp
  have hq1 : (w7.alloc (.cells #[.int .u64 2, .int .u64 8] 52)).ownsRow 0 52 1 (.slice (some ⟨w7.heap.size, 0, none⟩) 2 2) [(2 : Int), 8].length (words [2, 8]) :=
    ⟨rfl, .inr ⟨w7.heap.size, 2, _, rfl, Nat.zero_le _, heap_alloc_new w7 _, Nat.le_refl _, by unfold maxLen; omega, rfl, rfl⟩⟩
  have HE1 := Lib.hid (equal_am (HR67.out.alloc (.cells #[.int .u64 2, .int .u64 8] 52)) hq1 (by simp))
  clear hq1
  go_wp2_with fail
  refine HE1.out.mono ?_
  rintro e w8 ⟨rfl, n8, rfl⟩
  have hq2 : (((w7.alloc (.cells #[.int .u64 2, .int .u64 8] 52)).drewN n8).alloc (.cells #[.int .u64 3, .int .u64 42, .int .u64 46] 52)).ownsRow 0 52 1 (.slice (some ⟨w7.heap.size + 1, 0, none⟩) 3 3) [(3 : Int), 42, 46].length (words [3, 42, 46]) :=
    ⟨rfl, .inr ⟨w7.heap.size + 1, 3, _, rfl, Nat.zero_le _, heap_at_new ((w7.alloc (.cells #[.int .u64 2, .int .u64 8] 52)).drewN n8) _ (size_alloc w7 _).symm, Nat.le_refl _, by unfold maxLen; omega, rfl, rfl⟩⟩
  have hch8 : Chg [] w7 (((w7.alloc (.cells #[.int .u64 2, .int .u64 8] 52)).drewN n8).alloc (.cells #[.int .u64 3, .int .u64 42, .int .u64 46] 52)) := (((Chg.refl [] w7).alloc _).drewN n8).alloc _
  have HE2 := Lib.hid (equal_am (ownsRow_chg HR7.out hch8 (by simp)) hq2 (by simp))
  have HM8 := Lib.hid (HM7.out.chg hch8 (by simp))
  have HC8 := Lib.hid (HC7.out.trans hch8)
  clear hq2 hch8
  go_wp2_with fail
  refine HE2.out.mono ?_
  rintro e w9 ⟨rfl, n9, rfl⟩
  have HM9 := Lib.hid (HM8.out.drewN n9)
  have HC9 := Lib.hid (HC8.out.drewN n9)
  clear HM8 HC8 HE2
  generalize (((w7.alloc (.cells #[.int .u64 2, .int .u64 8] 52)).drewN n8).alloc (.cells #[.int .u64 3, .int .u64 42, .int .u64 46] 52)).drewN n9 = w10 at HM9 HC9 ⊢
  have k0 := cell_at HM9.out.a (o := 0) (v := .pointer (some ⟨h, 0, none⟩)) rfl
  have hbs := base_am HM9.out
  have htp := top_am HM9.out
  rw [show ((SA.coll [3, 8, 2]).base : Int) = 20 by rw [sa_base]; rfl] at hbs
  rw [show ((SA.coll [3, 8, 2]).top : Int) = 25 by rw [sa_top]; rfl] at htp
  have HBS := Lib.hid hbs
  have HTP := Lib.hid htp
  clear hbs htp
  go_wp2_with (first | (go_at_call 21; refine HBS.out.mono ?_; rintro e w' ⟨rfl, hw'⟩; obtain rfl := hw'.symm) | (go_at_call 22; refine HTP.out.mono ?_; rintro e w' ⟨rfl, hw'⟩; obtain rfl := hw'.symm))
  go_ret
  exact ⟨rfl, HC9.out⟩

end Go.Proofs.Ytkjggomkkfknhaa
