import Derived.Test.YtleoedjjepkhgaaClone
/- The closure of copier.Collect that notes what a word leads into. -/
namespace Go.Proofs.Ytleoedjjepkhgaa
open Go.RowKit

open Classical in
noncomputable def begAs (S : St) (l : List Int) (x : Int) : Option Value := if x ∈ l then some (.int .u64 (S.lds x).1) else none
open Classical in
noncomputable def distAs (S : St) (l : List Int) (x : Int) : Option Value := if x ∈ l then some (.int .i64 (S.lds x).2) else none

/-- what the closure holds -/
structure CN (W w : World) (p : Nat) (S : St) (bA bB bD mB mD : Nat) (l : List Int) : Prop where
  chg : Chg [] W w
  kA : w.heap[bA]? = some (.cells #[.pointer (some ⟨p, 0, none⟩)] 44 (0, 0))
  kB : w.heap[bB]? = some (.cells #[.map (some mB)] 106 (0, 0))
  kD : w.heap[bD]? = some (.cells #[.map (some mD)] 107 (0, 0))
  begs : MapIs w mB (begAs S l)
  dists : MapIs w mD (distAs S l)
  ne : mB ≠ mD
  fB : W.heap.size ≤ mB
  fD : W.heap.size ≤ mD

section
variable {W w : World} {p h c : Nat} {sv : Value} {cs : List Int} {S : St} {bA bB bD mB mD : Nat} {l : List Int}

theorem CN.after {F : List Nat} {w' : World} (H : CN W w p S bA bB bD mB mD l) (hc : Chg F w w') (h0 : Chg [] W w') (hA : bA ∉ F) (hB : bB ∉ F) (hD : bD ∉ F) (h1 : mB ∉ F) (h2 : mD ∉ F) : CN W w' p S bA bB bD mB mD l :=
  ⟨h0, hc.get H.kA hA, hc.get H.kB hB, hc.get H.kD hD, H.begs.kept (hc.block _ H.begs.lt h1), H.dists.kept (hc.block _ H.dists.lt h2), H.ne, H.fB, H.fD⟩

theorem CN.drewN (H : CN W w p S bA bB bD mB mD l) (n : Nat) : CN W (w.drewN n) p S bA bB bD mB mD l := ⟨H.chg.drewN n, H.kA, H.kB, H.kD, H.begs, H.dists, H.ne, H.fB, H.fD⟩

theorem begAs_cons (S : St) (l : List Int) (x : Int) : (fun y => if y = x then some (.int .u64 (S.lds x).1) else begAs S l y) = begAs S (x :: l) := by
  funext y
  unfold begAs
  by_cases e : y = x
  · subst e; simp
  · simp [e]

theorem distAs_cons (S : St) (l : List Int) (x : Int) : (fun y => if y = x then some (.int .i64 (S.lds x).2) else distAs S l y) = distAs S (x :: l) := by
  funext y
  unfold distAs
  by_cases e : y = x
  · subst e; simp
  · simp [e]

/-- behind both stores -/
theorem note_done {w1 w2 : World} (H : CN W w p S bA bB bD mB mD l) {n : Nat} {x : Int} (hm1 : MapIs w1 mB (fun y => if y = x then some (.int .u64 (S.lds x).1) else begAs S l y)) (hg1 : (w.drewN n).grownBy w1 (some mB))
    (hm2 : MapIs w2 mD (fun y => if y = x then some (.int .i64 (S.lds x).2) else distAs S l y)) (hg2 : w1.grownBy w2 (some mD)) : CN W w2 p S bA bB bD mB mD (x :: l) ∧ Chg [mB, mD] w w2 := by
  have c0 : Chg [mB, mD] w w2 := (((Chg.refl [mB, mD] w).drewN n).grown hg1 (fun k hk => .inl (by cases hk; simp))).grown hg2 (fun k hk => .inl (by cases hk; simp))
  have c1 : Chg [] W w2 := ((H.chg.drewN n).grown hg1 (fun k hk => .inr (by cases hk; exact H.fB))).grown hg2 (fun k hk => .inr (by cases hk; exact H.fD))
  refine ⟨⟨c1, c0.get H.kA ?_, c0.get H.kB ?_, c0.get H.kD ?_, ?_, ?_, H.ne, H.fB, H.fD⟩, c0⟩
  · simp [map_ne_cells H.begs H.kA, map_ne_cells H.dists H.kA]
  · simp [map_ne_cells H.begs H.kB, map_ne_cells H.dists H.kB]
  · simp [map_ne_cells H.begs H.kD, map_ne_cells H.dists H.kD]
  · rw [← begAs_cons]
    exact hm1.kept (hg2.block mB hm1.lt (by intro e; cases e; exact H.ne rfl))
  · rw [← distAs_cons]
    exact hm2

set_option maxHeartbeats 2000000 in
set_option maxRecDepth 100000 in
theorem note_am (HA : AM W p h c sv cs S) (H : CN W w p S bA bB bD mB mD l) (x : Int) (h0 : 0 ≤ x) (h1 : x < 18446744073709551616) :
    Calls Try.prog 67 #[.int .u64 x, .pointer (some ⟨bA, 0, none⟩), .pointer (some ⟨bB, 0, none⟩), .pointer (some ⟨bD, 0, none⟩)] w fun e w' =>
      e = .returned (.tuple #[]) ∧ CN W w' p S bA bB bD mB mD (x :: l) ∧ Chg [mB, mD] w w' := by
  have hL : Calls Try.prog 36 #[.pointer (some ⟨p, 0, none⟩), .int .u64 x] w.drew fun e w' => ∃ n w1 w2, e = .returned (.tuple #[.int .u64 (S.lds x).1, .int .i64 (S.lds x).2]) ∧ w' = w.drewN (1 + n) ∧
      (Instr.mapUpdate 106 (.map (some mB)) (.int .u64 x) (.int .u64 (S.lds x).1)).run Try.prog (w.drewN (1 + n)) = .ok () w1 ∧
      (Instr.mapUpdate 107 (.map (some mD)) (.int .u64 x) (.int .i64 (S.lds x).2)).run Try.prog w1 = .ok () w2 ∧ w1.cell? ⟨bD, 0, none⟩ = some (.map (some mD)) ∧ Hid (CN W w2 p S bA bB bD mB mD (x :: l) ∧ Chg [mB, mD] w w2) := by
    refine (leads_am ((HA.chg H.chg (by simp)).drewN 1) x h0 h1).mono ?_
    rintro e w' ⟨rfl, n, rfl⟩
    obtain ⟨w1, r1, m1, g1⟩ := run_update_word (P := Try.prog) (w := w.drewN (1 + n)) H.begs Try.underlying106 Try.underlying49 x (.int .u64 (S.lds x).1)
    have hd1 : MapIs w1 mD (distAs S l) := H.dists.kept (g1.block mD H.dists.lt (by intro e; cases e; exact H.ne rfl))
    obtain ⟨w2, r2, m2, g2⟩ := run_update_word (P := Try.prog) (w := w1) hd1 Try.underlying107 Try.underlying49 x (.int .i64 (S.lds x).2)
    refine ⟨n, w1, w2, rfl, by simp, r1, r2, ?_, note_done H m1 g1 m2 g2⟩
    have hbD : w1.heap[bD]? = some (.cells #[.map (some mD)] 107 (0, 0)) := by
      rw [g1.block bD (lt_of_heap (w := w.drewN (1 + n)) H.kD) (by intro e; cases e; exact map_ne_cells H.begs H.kD rfl)]
      exact H.kD
    exact cell_at hbD rfl
  have kA := cell_at H.kA (o := 0) rfl
  have kB := cell_at H.kB (o := 0) rfl
  have kD := cell_at H.kD (o := 0) rfl
  have HL := Lib.hid hL
  clear H hL HA
  go_enter Try.func67, Try.ntmps67
  go_wp2
  go_region_with (go_at_call 36; refine HL.out.mono ?_; rintro e w' ⟨n, w1, w2, rfl, hw', r1, r2, k1, hfin⟩; obtain rfl := hw')
  all_goals
    go_wp2
    go_end0
    exact ⟨rfl, hfin.out.1, hfin.out.2⟩
end

end Go.Proofs.Ytleoedjjepkhgaa
