import Derived.Test.YtleoedjjepkhgaaAlloc
import Derived.OwnWalk
/- arena.New, (*Arena).Blocks. -/
namespace Go.Proofs.Ytleoedjjepkhgaa
open Go.RowKit

def St.fresh (n : Nat) : St := ⟨n, 0, []⟩

section
variable {w : World} {p h c : Nat} {sv : Value} {cs : List Int} {S : St}

theorem new_out (n : Int) (hn : n < 2 ∨ 32768 < n) (w : World) :
    Calls Try.prog 29 #[.int .i64 n] w fun e w' => e = .returned (.pointer none) ∧ w' = w := by
  rcases hn with h | h
  · have c1 : decide (n < 2) = true := decide_eq_true h
    go_enter Try.func29, Try.ntmps29
    go_wp2
    go_ret
    exact ⟨rfl, rfl⟩
  · have c1 : decide (n < 2) = false := decide_eq_false (by omega)
    have c2 : decide (32768 < n) = true := decide_eq_true h
    go_enter Try.func29, Try.ntmps29
    go_wp2
    go_ret
    exact ⟨rfl, rfl⟩

theorem new_in (n : Nat) (h1 : 2 ≤ n) (h2 : n ≤ 32768) (w : World) :
    Calls Try.prog 29 #[.int .i64 n] w fun e w' => ∃ p h c cs, e = .returned (.pointer (some ⟨p, 0, none⟩)) ∧ Chg [] w w' ∧ AM w' p h c (.slice none 0 0) cs (St.fresh n) ∧ w.heap.size ≤ p ∧ w.heap.size ≤ h ∧ w.heap.size ≤ c := by
  have c1 : decide ((n : Int) < 2) = false := decide_eq_false (by omega)
  have c2 : decide (32768 < (n : Int)) = false := decide_eq_false (by omega)
  obtain ⟨i0, hi, hz0, hz1, hz2⟩ := info_parts info_word
  go_enter Try.func29, Try.ntmps29
  go_wp2_with (at_make; refine wpList_make_full _ rfl _ _ 28 rfl w.heap.size 49 i0 (.int .u64 0) 1 Try.underlying28 hi hz0 hz1 .i64 .i64 _ _ (2 * n) rfl rfl (by omega) (by omega) (by rw [hz2]; omega) (by unfold maxLen; omega) (Nat.le_refl _) ?_; intro w1 hown1 hgrow1)
  go_ret
  obtain ⟨_, hr⟩ := hown1
  rcases hr with ⟨hr, _⟩ | ⟨g, cap, cur, hv, _, hg, _, _, hcs, htk⟩
  · cases hr
  cases hv
  have hcur : cur = (words (List.replicate (2 * n) 0)).toArray := by
    have e1 : cur.toList.take (2 * n * 1) = cur.toList := List.take_of_length_le (by simp only [Array.length_toList, hcs]; exact Nat.le_refl _)
    rw [e1] at htk
    have e2 : cur.toList = words (List.replicate (2 * n) 0) := by
      rw [htk]
      show (madeCells #[Value.int .u64 0] (2 * n * 1)).toList = _
      rw [toList_madeCells_one]
      simp [words]
    rw [← e2]
  subst hcur
  have hlt := lt_of_heap hg
  have hsz := hgrow1.size
  have e0 : ∀ k, k < w1.heap.size → ((w1.alloc (.cells #[.slice (some ⟨w.heap.size, 0, none⟩) (2 * n) (2 * n), .int .i64 n, .int .i64 0, .int .i64 0] 91)).alloc (.cells #[.pointer (some ⟨w1.heap.size, 0, none⟩), .slice none 0 0] 66)).heap[k]? = w1.heap[k]? := by
    intro k hk
    rw [Below.heap_alloc _ _ _ (by simp only [World.alloc, Array.size_push]; omega), Below.heap_alloc _ _ _ hk]
  refine ⟨w1.heap.size + 1, w1.heap.size, w.heap.size, List.replicate (2 * n) 0, rfl, ?_, ?_, by omega, by omega, Nat.le_refl _⟩
  · exact (((Chg.refl [] w).grown hgrow1 (fun k hk => by cases hk)).alloc _).alloc _
  · refine ⟨?_, ?_, ?_, by simp [St.fresh], World.ownsRow_nil _ _ _ _, ⟨fun k hk => by simp [St.fresh] at hk, fun k hk => by simp [St.fresh] at hk⟩, ?_, ⟨h1, h2, by simp [St.fresh], by simp [St.fresh, span]⟩, fun b hb => by simp [St.fresh] at hb⟩
    · have := heap_alloc_new (w1.alloc (.cells #[.slice (some ⟨w.heap.size, 0, none⟩) (2 * n) (2 * n), .int .i64 n, .int .i64 0, .int .i64 0] 91)) (.cells #[.pointer (some ⟨w1.heap.size, 0, none⟩), .slice none 0 0] 66)
      have e : (w1.alloc (.cells #[.slice (some ⟨w.heap.size, 0, none⟩) (2 * n) (2 * n), .int .i64 n, .int .i64 0, .int .i64 0] 91)).heap.size = w1.heap.size + 1 := by simp
      rw [e] at this
      exact this
    · rw [Below.heap_alloc _ _ _ (by simp)]
      have := heap_alloc_new w1 (.cells #[.slice (some ⟨w.heap.size, 0, none⟩) (2 * n) (2 * n), .int .i64 n, .int .i64 0, .int .i64 0] 91)
      rw [this]
      simp [St.fresh, St.base, St.top, span]
    · rw [e0 _ hlt]; exact hg
    · intro x hx
      have := List.eq_of_mem_replicate hx
      subst this
      exact ⟨by omega, by omega⟩

/-! ### Blocks -/

def St.blocks (S : St) : List Int := S.starts.map fun a => 2 * ((a : Nat) : Int)

set_option maxHeartbeats 1000000 in
set_option maxRecDepth 100000 in
theorem blocks_am (H : AM w p h c sv cs S) :
    Calls Try.prog 23 #[.pointer (some ⟨p, 0, none⟩)] w fun e w' => ∃ v, e = .returned v ∧ Chg [] w w' ∧ w'.ownsRow w.heap.size 49 1 v S.blocks.length (words S.blocks) := by
  obtain ⟨f1, f2, f3, f4, f5, f6⟩ := H.fields
  have hcnt := H.count
  obtain ⟨i0, hi, hz0, hz1, hz2⟩ := info_parts info_word
  clear f1 f3 f4 f5 f6
  rcases H.row with ⟨rfl, hL⟩ | ⟨g, cap, rfl, hcap, hg⟩
  · go_enter Try.func23, Try.ntmps23
    go_wp2
    refine wp_loop_rounds 1 ?_
    rw [rounds_succ]
    go_wp2
    go_ret
    have hb : S.blocks = [] := by unfold St.blocks St.starts; simp [hL]
    exact ⟨_, rfl, Chg.refl _ _, by rw [hb]; exact World.ownsRow_nil _ _ _ _⟩
  · go_enter Try.func23, Try.ntmps23
    go_wp2
    go_loopw [3, 11] (fun v u wr => ∃ k : Nat, k ≤ S.L.length ∧ u = .int .i64 k ∧ wr.ownsRow w.heap.size 49 1 v k (words (S.blocks.take k)) ∧ Chg [] w wr) (fun _ u _ => S.L.length - (intOf u).toNat)
    case atStart => exact ⟨0, Nat.zero_le _, rfl, World.ownsRow_nil _ _ _ _, Chg.refl _ _⟩
    case round =>
      obtain ⟨k, hk, rfl, hown, hch⟩ := hrel
      by_cases hlt : k < S.L.length
      · have hc1 : wr.cell? ⟨g, k, none⟩ = some (.int .i64 ((S.pos k : Nat) : Int)) := by
          have h1 := hg k hlt
          rw [starts_nth S hlt] at h1
          have hgl : g < w.heap.size := World.block_lt_of_cell? w _ h1
          rw [World.cell?_of_block (w := w) (hch.block g hgl (by simp))]
          exact h1
        have hpos := (H.posLe hlt)
        have hb1 : 0 ≤ ((S.pos k : Nat) : Int) := by omega
        have hb2 : ((S.pos k : Nat) : Int) ≤ 65536 := by omega
        have htake := Lib.hid (show words (S.blocks.take (k + 1)) = words (S.blocks.take k) ++ [.int .u64 (2 * ((S.pos k : Nat) : Int))] by
          rw [List.take_add_one]
          have : S.blocks[k]? = some (2 * ((S.pos k : Nat) : Int)) := by unfold St.blocks; rw [List.getElem?_map, nth_get (by rw [starts_length]; exact hlt), starts_nth S hlt]; rfl
          rw [this]
          simp [words])
        have hdec : decide ((k : Int) < (S.L.length : Int)) = true := decide_eq_true (by omega)
        have hown1 := Lib.hid (hown.alloc (.cells #[.int .u64 (2 * ((S.pos k : Nat) : Int))] 49))
        have hsz := hch.size
        have hle := hown.lt
        have HC := Lib.hid hch
        have HL := Lib.hid hle
        clear hown hch hg f2 hpos hle
        go_wp2_with (first | (at_builtin; refine wpList_append_own_at _ rfl _ _ 28 rfl w.heap.size 49 i0 (.int .u64 0) 1 8 Try.underlying28 hi hz0 hz1 hz2 rfl (by decide) _ _ _ rfl hown1.out ⟨wr.heap.size, 0, none⟩ 1 1 [.int .u64 (2 * ((S.pos k : Nat) : Int))] rfl rfl (cell_one_new _ _ _) (ints_oneCell .u64 [2 * ((S.pos k : Nat) : Int)]) (by unfold maxLen; omega) (by omega) (by simp; omega) ?_; intro v' w2 hown2 hgrow2 hnil hloc; have HO := Lib.hid hown2; have HG := Lib.hid hgrow2; clear hown2 hgrow2 hnil hloc) | (go_at_call 47; refine (wPtr_any _ (by omega) (by omega) _).mono ?_; rintro e w' ⟨rfl, hw'⟩; obtain rfl := hw'.symm))
        go_roundw
        case rel => exact ⟨k + 1, by omega, by go_num, by rw [htake.out]; exact HO.out, (HC.out.alloc _).grown HG.out (fun j hj => .inr (HL.out j hj).1)⟩
        case measure => simp [intOf]; omega
      · obtain rfl : k = S.L.length := by omega
        have hdec : decide ((S.L.length : Int) < (S.L.length : Int)) = false := decide_eq_false (by omega)
        have HC := Lib.hid hch
        have HO := Lib.hid hown
        clear hch hown hg f2
        go_wp2
        go_ret
        have hl : S.blocks.length = S.L.length := by unfold St.blocks; rw [List.length_map, starts_length]
        refine ⟨_, rfl, HC.out, ?_⟩
        have := HO.out
        rw [List.take_of_length_le (Nat.le_of_eq hl)] at this
        rw [hl]; exact this
end

end Go.Proofs.Ytleoedjjepkhgaa
