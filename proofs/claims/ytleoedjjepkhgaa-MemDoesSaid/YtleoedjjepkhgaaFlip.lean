import Derived.Test.YtleoedjjepkhgaaSet
import Derived.BigRegion
/- (*Arena).Flip. -/
namespace Go.Proofs.Ytleoedjjepkhgaa
open Go.RowKit

def St.flip (S : St) : St := ⟨S.n, 1 - S.up, []⟩

section
variable {w : World} {p h c : Nat} {sv : Value} {cs : List Int} {S : St}

set_option maxHeartbeats 1000000 in
theorem flip_am (H : AM w p h c sv cs S) :
    Calls Try.prog 68 #[.pointer (some ⟨p, 0, none⟩)] w fun e w' =>
      e = .returned (.tuple #[]) ∧ Chg [p, h] w w' ∧ AM w' p h c (.slice none 0 0) cs S.flip := by
  obtain ⟨f1, f2, f3, f4, f5, f6⟩ := H.fields
  have z1 := free_at H.hv 2
  have z2 := free_at H.hv 3
  have z3 := free_at H.a 1
  have hn : S.n ≤ 32768 := H.ok.n3
  have hbn : S.base ≤ S.n := by unfold St.base; have h7 : S.n * S.up ≤ S.n * 1 := Nat.mul_le_mul_left _ H.ok.up; omega
  have hne : p ≠ h := row_ne H.a H.hv (by decide)
  generalize hb : S.base = b at *
  clear f3
  go_enter Try.func68, Try.ntmps68
  go_wp2
  go_region
  all_goals go_wp2
  all_goals go_region
  all_goals go_wp2
  go_end0
  have hup := H.ok.up
  have hfb : (S.flip.base : Int) = (S.n : Int) - b := by
    have : S.flip.base + S.base = S.n := by
      unfold St.base St.flip
      dsimp only
      rcases Nat.le_one_iff_eq_zero_or_eq_one.1 hup with e | e <;> simp [e]
    omega
  have hft : S.flip.top = S.flip.base := by unfold St.top St.flip; simp [span]
  refine ⟨rfl, ?_, ?_⟩
  · have k1 := Chg.set (b := h) (o := 2) (Chg.refl [p, h] w) (.int .i64 ((S.n : Int) - b)) (.inl (by simp))
    have k2 := Chg.set (b := h) (o := 3) k1 (.int .i64 ((S.n : Int) - b)) (.inl (by simp))
    have k3 := Chg.set (b := p) (o := 1) k2 (.slice none 0 0) (.inl (by simp))
    exact ⟨k3.os, k3.tape, k3.output, k3.size, k3.block⟩
  · have a1 := heap_set (o := 2) H.hv (.int .i64 ((S.n : Int) - b))
    have a2 := heap_set (o := 3) a1 (.int .i64 ((S.n : Int) - b))
    have e1 : ∀ k, k ≠ p → k ≠ h → (((w.setCell ⟨h, 2, none⟩ (.int .i64 ((S.n : Int) - b))).setCell ⟨h, 3, none⟩ (.int .i64 ((S.n : Int) - b))).setCell ⟨p, 1, none⟩ (.slice none 0 0)).heap[k]? = w.heap[k]? := by
      intro k k1 k2
      rw [heap_set_ne _ k1, heap_set_ne _ k2, heap_set_ne _ k2]
    refine ⟨?_, ?_, ?_, H.len, World.ownsRow_nil _ _ _ _, ?_, H.rng, ?_, ?_⟩
    · have := heap_set (w := ((w.setCell ⟨h, 2, none⟩ (.int .i64 ((S.n : Int) - b))).setCell ⟨h, 3, none⟩ (.int .i64 ((S.n : Int) - b)))) (b := p) (o := 1) (fz := (0, 0)) (by rw [heap_set_ne _ hne, heap_set_ne _ hne]; exact H.a) (.slice none 0 0)
      exact this
    · rw [hft, hfb]
      have := heap_set_ne (w := ((w.setCell ⟨h, 2, none⟩ (.int .i64 ((S.n : Int) - b))).setCell ⟨h, 3, none⟩ (.int .i64 ((S.n : Int) - b)))) (b := p) (o := 1) (k := h) (.slice none 0 0) (fun e => hne e.symm)
      rw [a2] at this
      exact this
    · exact (e1 c (fun e => row_ne H.a H.cc (by decide) e.symm) (fun e => row_ne H.hv H.cc (by decide) e.symm)).trans H.cc
    · exact ⟨fun k hk => by simp [St.flip] at hk, fun k hk => by simp [St.flip] at hk⟩
    · exact ⟨H.ok.n2, H.ok.n3, by unfold St.flip; dsimp only; omega, by unfold St.flip; simp [span]⟩
    · intro b hb; simp [St.flip] at hb
end

end Go.Proofs.Ytleoedjjepkhgaa
