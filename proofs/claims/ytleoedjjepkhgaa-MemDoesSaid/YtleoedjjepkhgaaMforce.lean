import Derived.Test.YtleoedjjepkhgaaMnew
import Derived.Defers
/- (*Mem).counted and Force -/
namespace Go.Proofs.Ytleoedjjepkhgaa
open Go.RowKit

theorem mcounted_am {w : World} {M p : Nat} {k : Int} (H : MemAt w M p k) (hk : 0 ≤ k ∧ k < 9223372036854775807) (u : FrameMode) :
    CallsD Try.prog 30 #[.pointer (some ⟨M, 0, none⟩)] u w fun e u' w' => u' = u ∧ e = .returned (.tuple #[]) ∧ w' = w.setCell ⟨M, 1, none⟩ (.int .i64 (k + 1)) := by
  have k1 := cell_at H (o := 1) (v := .int .i64 k) rfl
  have z1 := free_at H 1
  have hw1 : IntKind.i64.wrap (k + 1) = k + 1 := IntWalk.i64_in _ (by omega)
  go_enter_d Try.func30, Try.ntmps30
  go_wp2
  go_end0
  exact ⟨rfl, rfl⟩

set_option maxHeartbeats 4000000 in
set_option maxRecDepth 100000 in
theorem mforce_by {w : World} {M p : Nat} {k : Int} (H : MemAt w M p k) (hk : 0 ≤ k ∧ k < 9223372036854775807) (rv : Value) (Q : Value → World → Prop)
    (hco : Calls Try.prog 56 #[.pointer (some ⟨p, 0, none⟩), rv] w fun e w' => ∃ a n c, e = .returned (.slice a n c) ∧ MemAt w' M p k ∧ Q (.slice a n c) w') :
    Calls Try.prog 33 #[.pointer (some ⟨M, 0, none⟩), rv] w fun e w' => ∃ v w2, e = .returned v ∧ MemAt w2 M p k ∧ Q v w2 ∧ w' = w2.setCell ⟨M, 1, none⟩ (.int .i64 (k + 1)) := by
  have HCO := Lib.hid hco
  have k0 := cell_at H (o := 0) (v := .pointer (some ⟨p, 0, none⟩)) rfl
  have k2 := cell_at H (o := 2) (v := .func (.func 30) #[.pointer (some ⟨M, 0, none⟩)] #[]) rfl
  clear hco
  go_enter_defers Try.func33, Try.ntmps33
  go_wp2_with fail
  refine HCO.out.mono ?_
  rintro e w2 ⟨a, n, c, rfl, hm, hq⟩
  go_wp2_with fail
  refine leaves_cons (f := 30) (args := #[.pointer (some ⟨M, 0, none⟩)]) (by simp) (by simp [go_sem]) ?_
  refine (mcounted_am hm hk .returning).mono ?_
  rintro e u' w'' ⟨rfl, rfl, rfl⟩
  exact ⟨_, results_tmp (t := 4) rfl _ _ _, .slice a n c, w2, rfl, hm, hq, rfl⟩
end Go.Proofs.Ytleoedjjepkhgaa
