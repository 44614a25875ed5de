import Derived.Test.YtleoedjjepkhgaaReach
import Derived.WalkSpells
/- slices.Clone of words. -/
namespace Go.Proofs.Ytleoedjjepkhgaa
open Go.RowKit

theorem own_low0 {w : World} {base base' : Nat} {e : TypeId} {n : Nat} {xs : List Value} (H : w.ownsRow base e 1 (.slice none 0 0) n xs) : w.ownsRow base' e 1 (.slice none 0 0) n xs := by
  refine ⟨H.1, .inl ⟨rfl, ?_⟩⟩
  rcases H.2 with h | ⟨g, cap, cur, h, _⟩
  · exact h.2
  · cases h

section
variable {w : World}

set_option maxHeartbeats 2000000 in
set_option maxRecDepth 100000 in
theorem clone_am (base : Nat) (v : Value) (l : List Int) (hr : w.ownsRow base 49 1 v l.length (words l)) (hl : l.length ≤ 1000000) :
    Calls Try.prog 53 #[v] w fun e w' => ∃ v', e = .returned v' ∧ Chg [] w w' ∧ w'.ownsRow w.heap.size 49 1 v' l.length (words l) := by
  obtain ⟨i0, hi, hz0, hz1, hz2⟩ := info_parts info_word
  rcases hr.2 with ⟨rfl, h0⟩ | ⟨g, cap, cur, rfl, hb, hg, hc1, hc2, hc3, hc4⟩
  · have HR := Lib.hid hr
    rw [h0] at HR
    have H0 := Lib.hid h0
    clear hr h0 hl
    have hq := fun (w : World) (a : Option Addr) (n c : Nat) => Lib.run_eql_slice_nil w 28 49 a n c 0 0 Try.underlying28
    go_enter Try.func53, Try.ntmps53
    go_wp2
    go_ret
    refine ⟨_, rfl, Chg.refl _ _, ?_⟩
    rw [H0.out]
    exact own_low0 HR.out
  · have HR := Lib.hid hr
    have hgl := lt_of_heap hg
    have hnews : ∀ j u, (words l)[j]? = some u → (w.alloc (.cells #[] 49)).cell? ((⟨g, 0, none⟩ : Addr).add j) = some u := by
      intro j u hj
      rw [← hc4, List.getElem?_take] at hj
      have hj2 : cur[j]? = some u := by
        split at hj
        · simpa using hj
        · cases hj
      have h2 := cell_at (w := w.alloc (.cells #[] 49)) ((Below.heap_alloc _ _ _ hgl).trans hg) hj2
      by_cases hj0 : j = 0
      · subst hj0; simpa [Addr.add] using h2
      · simpa [Addr.add, hj0] using h2
    have HN := Lib.hid hnews
    have hown0 : (w.alloc (.cells #[] 49)).ownsRow w.heap.size 49 1 (.slice (some ⟨w.heap.size, 0, none⟩) 0 0) 0 [] :=
      ⟨rfl, .inr ⟨w.heap.size, 0, #[], rfl, Nat.le_refl _, heap_alloc_new w _, Nat.le_refl _, by unfold maxLen; omega, rfl, rfl⟩⟩
    have H0 := Lib.hid hown0
    clear hr hnews hg hc1 hc2 hc3 hc4 hb hown0
    have hq := fun (w : World) (a : Option Addr) (n c : Nat) => Lib.run_eql_slice_nil w 28 49 a n c 0 0 Try.underlying28
    go_enter Try.func53, Try.ntmps53
    go_wp2_with (at_builtin; refine wpList_append_own_at _ rfl _ _ 28 rfl w.heap.size 49 i0 (.int .u64 0) 1 8 Try.underlying28 hi hz0 hz1 hz2 rfl (by decide) _ _ _ rfl H0.out ⟨g, 0, none⟩ l.length cap (words l) rfl (by simp [words]) HN.out (ints_oneCell .u64 l) (by unfold maxLen; omega) (by omega) (by simp) ?_; intro v' w3 hown3 hgrow3 hnil hloc; have HO := Lib.hid hown3; have HG := Lib.hid hgrow3; obtain ⟨va, vc, hv'⟩ := ownsRow_slice hown3; clear hown3 hgrow3 hnil hloc; subst hv')
    go_ret
    refine ⟨_, rfl, ?_, ?_⟩
    · exact ((Chg.refl [] w).alloc _).grown HG.out (fun k hk => .inr (by have h3 : some w.heap.size = some k := hk; cases h3; exact Nat.le_refl _))
    · have := HO.out
      rw [Nat.zero_add] at this
      exact this
end

end Go.Proofs.Ytleoedjjepkhgaa
