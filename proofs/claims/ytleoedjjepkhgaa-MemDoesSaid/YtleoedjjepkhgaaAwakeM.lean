import Derived.Test.YtleoedjjepkhgaaDoReal
import Derived.LaidEqlPtr
/- The laws' awake. -/
namespace Go.Proofs.Ytleoedjjepkhgaa
open Go.RowKit

def SB1 : St := ⟨8, 0, [⟨1, [1, 1]⟩]⟩
def SB2 : St := ⟨8, 0, [⟨1, [1, 1]⟩, ⟨2, [1, 1]⟩]⟩
def SB3 : St := ⟨8, 1, [⟨1, [1, 1]⟩, ⟨3, [1, 1]⟩]⟩

theorem aw1 : memAlloc (St.fresh 8) 1 2 [] = ⟨2, some [], 0, SB1, 0⟩ := by kernel_rfl
theorem aw2 : memAlloc SB1 2 2 [2] = ⟨8, some [2], 0, SB2, 0⟩ := by kernel_rfl
theorem aw3 : memAlloc SB2 3 2 [2] = ⟨24, some [18], 0, SB3, 1⟩ := by kernel_rfl
theorem aw4 : memAlloc SB3 0 4 [18, 24] = ⟨0, none, 10, SB3, 0⟩ := by kernel_rfl

/-- a row of words that was just made -/
theorem row_made (w : World) (l : List Int) (h : l.length ≤ 1000) (base : Nat) (hb : base ≤ w.heap.size) (hl : 0 < l.length) : (w.alloc (.cells (words l).toArray 49)).ownsRow base 49 1 (.slice (some ⟨w.heap.size, 0, none⟩) l.length l.length) l.length (words l) :=
  ⟨by simp [words], .inr ⟨w.heap.size, l.length, _, rfl, hb, heap_alloc_new w _, Nat.le_refl _, by unfold maxLen; omega, by simp [words], by rw [List.take_of_length_le (by simp [words])]⟩⟩

theorem far_step {W w w' : World} {F F' : List Nat} (hc : Chg [] W w) (hF : ∀ b ∈ F, W.heap.size ≤ b) (hc' : Chg F w w') (hF' : ∀ b ∈ F', b ∈ F ∨ w.heap.size ≤ b) : Chg [] W w' ∧ ∀ b ∈ F', W.heap.size ≤ b := by
  refine ⟨hc.over hc' hF, fun b hb => ?_⟩
  rcases hF' b hb with h | h
  · exact hF b h
  · exact Nat.le_trans hc.size h

/-- Alloc at roots that were just made -/
theorem malloc_lit {w : World} {M p : Nat} {F : List Nat} {S : St} {k : Nat} (t m : Int) (l : List Int) (hl : 0 < l.length) (hl2 : l.length ≤ 1000) (hw : ∀ x ∈ l, Wd x) (HI : IR M p w F S k) (hk : k < 1000) (ht : -9223372036854775808 ≤ t ∧ t ≤ 9223372036854775807) :
    Calls Try.prog 28 #[.pointer (some ⟨M, 0, none⟩), .int .i64 t, .int .i64 m, .slice (some ⟨w.heap.size, 0, none⟩) l.length l.length] (w.alloc (.cells (words l).toArray 49)) (LaidPost (IR M p) F (w.alloc (.cells (words l).toArray 49)) S k t m l) :=
  malloc_am t m _ _ l (HI.keep ((Chg.refl [] w).alloc _) (by simp)) hk ht (row_made w l hl2 0 (Nat.zero_le _) hl) (by omega) hw (fun b hb hm => by
    have e : b = w.heap.size := by simpa [Value.ownBlock] using hb.symm
    have := HI.lts b hm
    omega)

set_option maxHeartbeats 4000000 in
set_option maxRecDepth 100000 in
theorem awake_am (W : World) : Calls Try.prog 7 #[] W fun e w' => e = .returned (.bool true) ∧ Chg [] W w' := by
  have HN := Lib.hid (mnew_in 8 (by omega) (by omega) W)
  go_enter Try.func7, Try.ntmps7
  go_wp2_with fail
  refine HN.out.mono ?_
  rintro e w1 ⟨M, p, h, c, cs, rfl, hc1, hm1, ha1, hM, hp, hh, hcc⟩
  have HI1 := Lib.hid (show IR M p w1 (M :: foot p h c (.slice none 0 0)) (St.fresh 8) 0 from ⟨h, c, _, cs, ha1, hm1, rfl⟩)
  have HF1 := Lib.hid (show ∀ b ∈ M :: foot p h c (.slice none 0 0), W.heap.size ≤ b by intro b hb; simp [foot, Value.ownBlock] at hb; rcases hb with rfl | rfl | rfl | rfl <;> assumption)
  have HC1 := Lib.hid hc1
  have HAR := Lib.hid (marena_am hm1)
  have HAL1 := malloc_am 1 2 none 0 [] HI1.out (by omega) (by omega) ⟨rfl, .inl ⟨rfl, rfl⟩⟩ (by simp) (by simp) (by simp [Value.ownBlock])
  unfold LaidPost at HAL1
  rw [aw1] at HAL1
  have HL1 := Lib.hid HAL1
  clear HAL1 hc1 hm1 ha1 hM hp hh hcc HN
  go_wp2_with (go_at_call 14; refine HAR.out.mono ?_; rintro e w' ⟨rfl, hw'⟩; obtain rfl := hw'.symm)
  refine HL1.out.mono ?_
  rintro e w2 ⟨a2, n2, k2, F2, rfl, hc2, hi2, hF2, hr2, _⟩
  obtain ⟨hC2, hf2⟩ := far_step HC1.out HF1.out hc2 hF2
  have HAL2 := malloc_lit 2 2 [2] (by simp) (by simp) (by intro x hx; simp at hx; subst hx; unfold Wd; omega) hi2 (by decide) (by omega)
  unfold LaidPost at HAL2
  rw [aw2] at HAL2
  have HL2 := Lib.hid HAL2
  have HC2 := Lib.hid (And.intro hC2 hf2)
  clear HAL2 hC2 hf2 hc2 hi2 hF2 hr2 HL1 HAR
  go_wp2_with fail
  refine HL2.out.mono ?_
  rintro e w3 ⟨a3, n3, k3, F3, rfl, hc3, hi3, hF3, hr3, _⟩
  obtain ⟨hC3, hf3⟩ := far_step (HC2.out.1.alloc _) HC2.out.2 hc3 hF3
  have HAL3 := malloc_lit 3 2 [2] (by simp) (by simp) (by intro x hx; simp at hx; subst hx; unfold Wd; omega) hi3 (by decide) (by omega)
  unfold LaidPost at HAL3
  rw [aw3] at HAL3
  have HL3 := Lib.hid HAL3
  have HC3 := Lib.hid (And.intro hC3 hf3)
  clear HAL3 hC3 hf3 hc3 hi3 hF3 hr3 HL2
  go_wp2_with fail
  refine HL3.out.mono ?_
  rintro e w4 ⟨a4, n4, k4, F4, rfl, hc4, hi4, hF4, hr4, hs4⟩
  obtain ⟨hC4, hf4⟩ := far_step (HC3.out.1.alloc _) HC3.out.2 hc4 hF4
  have hrow4 := hr4 [18] rfl
  have hn4 : n4 = 1 := by
    obtain ⟨_, _, e⟩ := ownsRow_slice hrow4
    simp only [Value.slice.injEq] at e
    exact e.2.1
  subst hn4
  have HAL4 := malloc_lit 0 4 [18, 24] (by simp) (by simp) (by intro x hx; simp at hx; rcases hx with rfl | rfl <;> (unfold Wd; omega)) hi4 (by decide) (by omega)
  unfold LaidPost at HAL4
  rw [aw4] at HAL4
  have HL4 := Lib.hid HAL4
  have HC4 := Lib.hid (And.intro hC4 hf4)
  have HR4 := Lib.hid (And.intro hrow4 hs4)
  clear HAL4 hC4 hf4 hc4 hi4 hF4 hr4 HL3 hrow4 hs4
  go_wp2_with fail
  refine HL4.out.mono ?_
  rintro e w5 ⟨a5, n5, k5, F5, rfl, hc5, hi5, hF5, hr5, _⟩
  obtain ⟨hC5, hf5⟩ := far_step (HC4.out.1.alloc _) HC4.out.2 hc5 hF5
  have hrow5 := ownsRow_chg (HR4.out.1.alloc (.cells #[.int .u64 18, .int .u64 24] 49)) hc5 (fun b hb => (HR4.out.2 b hb).1)
  obtain ⟨g4, hg4, hcell⟩ : ∃ g, a4 = some ⟨g, 0, none⟩ ∧ w5.cell? ⟨g, 0, none⟩ = some (.int .u64 18) := by
    obtain ⟨g, cap, h1, _, _, _, h2, _⟩ := ownsRow_shape hrow5 (by simp)
    simp only [Value.slice.injEq] at h1
    exact ⟨g, h1.1, h2 0 _ rfl⟩
  subst hg4
  obtain ⟨h5, c5, sv5, cs5, _, hm5, _⟩ := hi5
  have HCN := Lib.hid (mcount_am hm5)
  have HC5 := Lib.hid hC5
  clear hC5 hf5 hc5 hF5 hr5 hrow5 hm5 HL4
  go_wp2_with (go_at_call 20; refine HCN.out.mono ?_; rintro e w' ⟨rfl, hw'⟩; obtain rfl := hw'.symm)
  go_ret
  exact ⟨rfl, HC5.out⟩

end Go.Proofs.Ytleoedjjepkhgaa
