import Derived.Test.YtleoedjjepkhgaaNote
/- The closure of copier.Collect that turns a word. -/
namespace Go.Proofs.Ytleoedjjepkhgaa
open Go.RowKit

theorem zero_word (w : World) : (zeroValue 49).run Try.prog w = .ok (.int .u64 0) w := by kernel_rfl
theorem zero_int (w : World) : (zeroValue 3).run Try.prog w = .ok (.int .i64 0) w := by kernel_rfl

section
variable {w : World} {S : St} {bB bT bD mB mT mD : Nat} {l : List Int} {tf : Int → Option Value}

theorem look_beg (H : MapIs w mB (begAs S l)) {x : Int} (hx : x ∈ l) (n : Nat) : (Instr.lookup 106 (.map (some mB)) (.int .u64 x) false).run Try.prog (w.drewN n) = .ok (.int .u64 (S.lds x).1) (w.drewN n) := by
  rw [run_lookup_word (P := Try.prog) (w := w.drewN n) H Try.underlying106 Try.underlying49 (zero_word _) x]
  unfold begAs
  rw [if_pos hx]
  rfl

theorem look_dist (H : MapIs w mD (distAs S l)) {x : Int} (hx : x ∈ l) (n : Nat) : (Instr.lookup 107 (.map (some mD)) (.int .u64 x) false).run Try.prog (w.drewN n) = .ok (.int .i64 (S.lds x).2) (w.drewN n) := by
  rw [run_lookup_word (P := Try.prog) (w := w.drewN n) H Try.underlying107 Try.underlying49 (zero_int _) x]
  unfold distAs
  rw [if_pos hx]
  rfl

theorem look_to (H : MapIs w mT tf) {x y : Int} (hx : tf x = some (.int .u64 y)) (n : Nat) : (Instr.lookup 106 (.map (some mT)) (.int .u64 x) false).run Try.prog (w.drewN n) = .ok (.int .u64 y) (w.drewN n) := by
  rw [run_lookup_word (P := Try.prog) (w := w.drewN n) H Try.underlying106 Try.underlying49 (zero_word _) x, hx]
  rfl

set_option maxHeartbeats 2000000 in
set_option maxRecDepth 100000 in
theorem fix_am (kB : w.heap[bB]? = some (.cells #[.map (some mB)] 106 (0, 0))) (kT : w.heap[bT]? = some (.cells #[.map (some mT)] 106 (0, 0))) (kD : w.heap[bD]? = some (.cells #[.map (some mD)] 107 (0, 0)))
    (begs : MapIs w mB (begAs S l)) (dists : MapIs w mD (distAs S l)) (tos : MapIs w mT tf) (x res : Int) (hx : x ∈ l) (h0 : 0 ≤ x) (h1 : x < 18446744073709551616)
    (hres : (S.find x = none ∧ res = x) ∨ ∃ i d a, S.find x = some (i, d) ∧ 1 ≤ S.pos i ∧ tf (2 * ((S.pos i : Nat) : Int)) = some (.int .u64 (2 * ((a : Nat) : Int))) ∧ a + d ≤ 65536 ∧ res = 2 * ((a + d : Nat) : Int)) :
    Calls Try.prog 69 #[.int .u64 x, .pointer (some ⟨bB, 0, none⟩), .pointer (some ⟨bT, 0, none⟩), .pointer (some ⟨bD, 0, none⟩)] w fun e w' => e = .returned (.int .u64 res) ∧ ∃ n, w' = w.drewN n := by
  have cB := cell_at kB (o := 0) rfl
  have cT := cell_at kT (o := 0) rfl
  have cD := cell_at kD (o := 0) rfl
  have l1 := look_beg begs hx
  have l2 := look_dist dists hx
  rcases hres with ⟨hn, rfl⟩ | ⟨i, d, a, hf, hp, ht, had, rfl⟩
  · have e1 : (S.lds res).1 = 0 := by unfold St.lds; rw [hn]
    rw [e1] at l1
    have l1' : (Instr.lookup 106 (.map (some mB)) (.int .u64 res) false).run Try.prog w = .ok (.int .u64 0) w := l1 0
    clear begs dists tos kB kT kD l1 l2 e1
    go_enter Try.func69, Try.ntmps69
    go_wp2
    go_ret
    exact ⟨rfl, 0, rfl⟩
  · have e1 : (S.lds x).1 = 2 * ((S.pos i : Nat) : Int) := by unfold St.lds; rw [hf]
    have e2 : (S.lds x).2 = ((d : Nat) : Int) := by unfold St.lds; rw [hf]
    rw [e1] at l1
    rw [e2] at l2
    have l3 := look_to tos ht
    have l1' : (Instr.lookup 106 (.map (some mB)) (.int .u64 x) false).run Try.prog w = .ok (.int .u64 (2 * ((S.pos i : Nat) : Int))) w := l1 0
    have hne : decide (2 * ((S.pos i : Nat) : Int) = 0) = false := decide_eq_false (by omega)
    have hA := fun w => wAddr_any (2 * ((a : Nat) : Int)) (by omega) (by omega) w
    rw [show addr (2 * ((a : Nat) : Int)) = a from addr_ptr (by omega)] at hA
    have hP := fun w => wPtr_any ((a : Int) + (d : Int)) (by omega) (by omega) w
    have qA := fun w => (hA w).mono (R' := fun e w' => e = .returned (.int .i64 ((a : Nat) : Int)) ∧ ∃ n, w' = w.drewN n) (fun e w' h => ⟨h.1, 0, h.2⟩)
    have qP := fun w => (hP w).mono (R' := fun e w' => e = .returned (.int .u64 (2 * ((a : Int) + (d : Int)))) ∧ ∃ n, w' = w.drewN n) (fun e w' h => ⟨h.1, 0, h.2⟩)
    clear hA hP
    rw [show 2 * ((a + d : Nat) : Int) = 2 * ((a : Int) + (d : Int)) by omega]
    clear begs dists tos kB kT kD e1 e2 hf ht
    go_enter Try.func69, Try.ntmps69
    go_wp2
    refine region_quiet (by kernel_rfl) (by kernel_rfl) ?_
    repeat go_big_quiet_step (first | (go_at_call 61; exact Calls.quiet_of (qA _)) | (go_at_call 47; exact Calls.quiet_of (qP _)))
    refine wpQuiet_nil ?_
    intro m
    go_wp2
    go_ret
    exact ⟨rfl, m, rfl⟩
end

end Go.Proofs.Ytleoedjjepkhgaa
