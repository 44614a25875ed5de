import Derived.Test.YtkjggomkkfknhaaCollect
/- The laws' own helpers: word, words. -/
namespace Go.Proofs.Ytkjggomkkfknhaa
open Go.RowKit

/-- what a number stands for -/
def lawWord (x : Int) (at' : List Int) : Int :=
  if 1048576 ≤ x ∧ x < 1048640 then 2 * (256 * (x - 1048576) + 201) + 1
  else if 1048576 ≤ x ∨ at'.length = 0 then x
  else wat at' (x % 64 % (at'.length : Int)).toNat + 2 * ((x / 64) % 8)

set_option maxHeartbeats 2000000 in
set_option maxRecDepth 100000 in
theorem word_am {w : World} {base : Nat} {v : Value} {at' : List Int} (x : Int) (h0 : 0 ≤ x) (h1 : x < 18446744073709551616) (hr : w.ownsRow base 52 1 v at'.length (words at')) (hs : ∀ y ∈ at', 0 ≤ y ∧ y ≤ 131072) (hl : at'.length ≤ 40000) :
    Calls Try.prog 33 #[.int .u64 x, v] w fun e w' => e = .returned (.int .u64 (lawWord x at')) ∧ w' = w := by
  obtain ⟨a, cap, rfl⟩ := ownsRow_slice hr
  unfold lawWord
  by_cases c1 : 1048576 ≤ x
  · have d1 : decide (1048576 ≤ x) = true := decide_eq_true c1
    by_cases c2 : x < 1048640
    · have d2 : decide (x < 1048640) = true := decide_eq_true c2
      have hH := rHead_any 201 (x - 1048576) (by omega) (by omega) (by omega) (by omega)
      rw [if_pos ⟨c1, c2⟩]
      clear hs hr
      go_enter Try.func33, Try.ntmps33
      go_wp2_with (go_at_call 55; refine (hH _).mono ?_; rintro e w' ⟨rfl, rfl⟩)
      go_ret
      refine ⟨?_, rfl⟩
      rfl
    · have d2 : decide (x < 1048640) = false := decide_eq_false c2
      rw [if_neg (fun h => c2 h.2), if_pos (.inl c1)]
      clear hs hr
      go_enter Try.func33, Try.ntmps33
      go_wp2
      go_ret
      exact ⟨rfl, rfl⟩
  · have d1 : decide (1048576 ≤ x) = false := decide_eq_false c1
    rw [if_neg (fun h => c1 h.1)]
    by_cases c3 : at'.length = 0
    · have d3 : decide ((at'.length : Int) = 0) = true := decide_eq_true (by omega)
      rw [if_pos (.inr c3)]
      clear hs hr
      go_enter Try.func33, Try.ntmps33
      go_wp2
      go_ret
      exact ⟨rfl, rfl⟩
    · have d3 : decide ((at'.length : Int) = 0) = false := decide_eq_false (by omega)
      rw [if_neg (by omega)]
      have hq0 : 0 ≤ x % 64 % (at'.length : Int) := Int.emod_nonneg _ (by omega)
      have hq1 : x % 64 % (at'.length : Int) < (at'.length : Int) := Int.emod_lt_of_pos _ (by omega)
      have hm : (x % 64 % (at'.length : Int)).toNat < at'.length := by omega
      obtain ⟨g, rfl, lg, cg⟩ := row_word hr hm
      have hb := hs _ (wat_mem hm)
      clear hs hr
      go_enter Try.func33, Try.ntmps33
      go_wp2
      go_ret
      exact ⟨rfl, rfl⟩

/-- a slice of words that came in -/
def RdW (w : World) (A : Option Addr) (l : List Int) : Prop := ∀ k, k < l.length → ∃ ad, A = some ad ∧ ad.block < w.heap.size ∧ w.cell? (ad.add k) = some (.int .u64 (wat l k))

theorem add_block (a : Addr) (k : Nat) : (a.add k).block = a.block := by unfold Addr.add; split <;> rfl

theorem Chg.cell {W w : World} (h : Chg [] W w) {a : Addr} (ha : a.block < W.heap.size) : w.cell? a = W.cell? a := World.cell?_of_block (h.block _ ha (by simp))

theorem RdW.keep {W w : World} {A : Option Addr} {l : List Int} (H : RdW W A l) (hc : Chg [] W w) : RdW w A l := by
  intro k hk
  obtain ⟨ad, e, hb, hv⟩ := H k hk
  exact ⟨ad, e, Nat.lt_of_lt_of_le hb hc.size, by rw [hc.cell (by rw [add_block]; exact hb)]; exact hv⟩

/-- what numbers stand for -/
def lawWords (S : St) (l : List Int) : List Int := (l.take 60).map fun x => lawWord x S.blocks

theorem blocks_small {S : St} (hS : S.ok) : (∀ y ∈ S.blocks, 0 ≤ y ∧ y ≤ 131072) ∧ S.blocks.length = S.L.length := by
  constructor
  · intro y hy
    unfold St.blocks at hy
    rw [List.mem_map] at hy
    obtain ⟨a, ha, rfl⟩ := hy
    unfold St.starts at ha
    rw [List.mem_map] at ha
    obtain ⟨i, hi, rfl⟩ := ha
    have := pos_le hS (List.mem_range.1 hi)
    omega
  · simp [St.blocks, St.starts]

set_option maxHeartbeats 2000000 in
set_option maxRecDepth 100000 in
theorem words_am {W : World} {p h c : Nat} {sv : Value} {cs : List Int} {S : St} (HA : AM W p h c sv cs S) (A : Option Addr) (cap : Nat) (l : List Int) (hl : RdW W A l) (hw : ∀ x ∈ l, Wd x) (hll : l.length ≤ 9223372036854775807) :
    Calls Try.prog 11 #[.slice A l.length cap, .pointer (some ⟨p, 0, none⟩)] W fun e w' => ∃ v, e = .returned v ∧ Chg [] W w' ∧ w'.ownsRow W.heap.size 52 1 v (lawWords S l).length (words (lawWords S l)) := by
  obtain ⟨hbs, hbl⟩ := blocks_small HA.ok
  have hcnt := HA.count
  have HB := Lib.hid (blocks_am HA)
  have HBS := Lib.hid hbs
  have HL := Lib.hid hl
  have HW := Lib.hid hw
  obtain ⟨i0, hi, hz0, hz1, hz2⟩ := info_parts info_word
  clear hbs hl hw HA
  go_enter Try.func11, Try.ntmps11
  go_wp2_with fail
  refine HB.out.mono ?_
  rintro e w1 ⟨bv, rfl, hc1, hb1⟩
  obtain ⟨ba, bc, rfl⟩ := ownsRow_slice hb1
  have HC1 := Lib.hid hc1
  have HB1 := Lib.hid hb1
  clear hc1 hb1
  go_wp2_with fail
  have hch0 : Chg [] w1 (w1.alloc (Obj.cells #[] 52)) := (Chg.refl [] w1).alloc _
  have hown0 : (w1.alloc (.cells #[] 52)).ownsRow w1.heap.size 52 1 (.slice (some ⟨w1.heap.size, 0, none⟩) 0 0) 0 [] :=
    ⟨rfl, .inr ⟨w1.heap.size, 0, #[], rfl, Nat.le_refl _, heap_alloc_new w1 _, Nat.le_refl _, by unfold maxLen; omega, rfl, rfl⟩⟩
  have H0 := Lib.hid (And.intro hch0 hown0)
  clear hch0 hown0
  generalize w1.alloc (Obj.cells #[] 52) = w2 at H0 ⊢
  obtain ⟨a0, ha0⟩ : ∃ a, a = some (⟨w1.heap.size, 0, none⟩ : Addr) := ⟨_, rfl⟩
  rw [← ha0] at H0 ⊢
  clear ha0
  go_loopg [6, 7] (l.length) (fun gh v6 v7 wr => ∃ k : Nat, gh = l.length - k ∧ k ≤ l.length ∧ k ≤ 60 ∧ v7 = .int .i64 k ∧ ∃ va vc, v6 = .slice va k vc ∧ Chg [] w1 wr ∧ wr.ownsRow w1.heap.size 52 1 (.slice va k vc) k (words ((l.take k).map fun x => lawWord x S.blocks)))
  case atStart => exact ⟨0, rfl, Nat.zero_le _, Nat.zero_le _, rfl, a0, 0, rfl, H0.out.1, H0.out.2⟩
  case round =>
    clear H0
    obtain ⟨k, hgk, hk, hk60, rfl, va, vc, rfl, hch, hown⟩ := hrel
    have hsz := hch.size
    have hszW := HC1.out.size
    by_cases hlt : k < l.length
    · have hdec : decide ((k : Int) < (l.length : Int)) = true := decide_eq_true (by omega)
      by_cases h60 : k < 60
      · have hdec2 : decide ((k : Int) < 60) = true := decide_eq_true (by omega)
        obtain ⟨ad, rfl, hb, hv⟩ := HL.out.keep (HC1.out.trans hch) k hlt
        have hwd := HW.out _ (wat_mem hlt)
        have hbr := ownsRow_chg HB1.out hch (by simp)
        have HWD := Lib.hid (word_am (wat l k) hwd.1 hwd.2 hbr HBS.out (by omega))
        rw [hbl] at HWD
        have e : ((l.take (k + 1)).map fun x => lawWord x S.blocks) = ((l.take k).map fun x => lawWord x S.blocks) ++ [lawWord (wat l k) S.blocks] := by
          rw [List.take_add_one, wat_get hlt]; simp
        have HE := Lib.hid e
        have HC := Lib.hid hch
        have HO := Lib.hid (hown.alloc (.cells #[.int .u64 (lawWord (wat l k) S.blocks)] 52))
        clear e hch hown hbr
        go_wp2_with (first | (go_at_call 33; refine HWD.out.mono ?_; rintro e w' ⟨rfl, hw'⟩; obtain rfl := hw'.symm) | (at_builtin; refine wpList_append_own_at _ rfl _ _ 23 rfl w1.heap.size 52 i0 (.int .u64 0) 1 8 Try.underlying23 hi hz0 hz1 hz2 rfl (by decide) _ _ _ rfl HO.out ⟨wr.heap.size, 0, none⟩ 1 1 [.int .u64 (lawWord (wat l k) S.blocks)] rfl rfl (by exact cell_one_new wr _ _) (ints_oneCell .u64 [lawWord (wat l k) S.blocks]) (by unfold maxLen; omega) (by omega) (by simp only [size_alloc]; omega) ?_; intro v' w4 hown4 hgrow4 hnil hloc; have HO4 := Lib.hid hown4; have HG4 := Lib.hid hgrow4; obtain ⟨ka', kc', hv'⟩ := ownsRow_slice hown4; clear hown4 hgrow4 hnil hloc; subst hv'))
        go_roundg (l.length - (k + 1))
        case measure => omega
        case rel =>
          refine ⟨k + 1, rfl, by omega, by omega, by go_num, ka', kc', rfl, ?_, ?_⟩
          · refine (HC.out.alloc _).grown HG4.out (fun b hb => .inr ?_)
            exact (HO.out.lt b hb).1
          · rw [HE.out]
            have h2 := HO4.out
            have e2 : words (((l.take k).map fun x => lawWord x S.blocks) ++ [lawWord (wat l k) S.blocks]) = words ((l.take k).map fun x => lawWord x S.blocks) ++ [.int .u64 (lawWord (wat l k) S.blocks)] := by simp [words]
            rw [e2]
            exact h2
      · obtain rfl : k = 60 := by omega
        have hdec2 : decide ((60 : Int) < 60) = false := by decide
        have HF := Lib.hid (And.intro hch hown)
        clear hch hown
        go_wp2
        go_ret
        refine ⟨_, rfl, HC1.out.trans HF.out.1, ?_⟩
        have h := own_low HF.out.2 hszW
        have e : (lawWords S l).length = 60 := by unfold lawWords; simp; omega
        rw [e]
        exact h
    · obtain rfl : k = l.length := by omega
      have hdec : decide ((l.length : Int) < (l.length : Int)) = false := decide_eq_false (by omega)
      have HF := Lib.hid (And.intro hch hown)
      clear hch hown
      go_wp2
      go_ret
      refine ⟨_, rfl, HC1.out.trans HF.out.1, ?_⟩
      have h := own_low HF.out.2 hszW
      rw [List.take_length] at h
      have e : lawWords S l = l.map fun x => lawWord x S.blocks := by unfold lawWords; rw [List.take_of_length_le hk60]
      rw [e, List.length_map]
      exact h

end Go.Proofs.Ytkjggomkkfknhaa
