import Derived.Test.YtleoedjjepkhgaaNew
import Derived.Test.YtleoedjjepkhgaaRefa
/- How the reference's arena lies in memory. -/
namespace Go.Proofs.Ytleoedjjepkhgaa
open Go.RowKit

def rcells (S : St) (fv : Nat → Value) (k : Nat) : List Value := [.int .i64 ((S.pos k : Nat) : Int), .int .i64 (((S.blk k).tag : Nat) : Int), fv k]
def rrow (S : St) (fv : Nat → Value) (n : Nat) : List Value := (List.range n).flatMap (rcells S fv)

theorem rrow_succ (S : St) (fv : Nat → Value) (n : Nat) : rrow S fv (n + 1) = rrow S fv n ++ rcells S fv n := by
  unfold rrow; rw [List.range_succ, List.flatMap_append]; simp

theorem rrow_length (S : St) (fv : Nat → Value) (n : Nat) : (rrow S fv n).length = n * 3 := by
  induction n with
  | zero => rfl
  | succ n ih => rw [rrow_succ, List.length_append, ih]; simp [rcells]; omega

theorem rrow_get (S : St) (fv : Nat → Value) {n k j : Nat} (hk : k < n) (hj : j < 3) : (rrow S fv n)[k * 3 + j]? = (rcells S fv k)[j]? := by
  induction n with
  | zero => omega
  | succ n ih =>
    rw [rrow_succ]
    by_cases e : k = n
    · subst e
      rw [List.getElem?_append_right (by rw [rrow_length]; omega), rrow_length]
      congr 1; omega
    · rw [List.getElem?_append_left (by rw [rrow_length]; omega)]
      exact ih (by omega)

theorem rrow_congr {S T : St} {f g : Nat → Value} {n : Nat} (h : ∀ k, k < n → rcells S f k = rcells T g k) : rrow S f n = rrow T g n := by
  induction n with
  | zero => rfl
  | succ n ih => rw [rrow_succ, rrow_succ, ih (fun k hk => h k (by omega)), h n (by omega)]

structure RM (w : World) (q : Nat) (lv : Value) (fv : Nat → Value) (S : St) : Prop where
  a : w.heap[q]? = some (.cells #[.int .i64 (S.n : Int), .int .i64 (S.up : Int), lv] 70 (0, 0))
  row : w.ownsRow 0 73 3 lv S.L.length (rrow S fv S.L.length)
  fvs : ∀ k, k < S.L.length → w.ownsRow 0 49 1 (fv k) (S.blk k).fs.length (words (S.blk k).fs)
  dist : ∀ i j b, i < S.L.length → j < S.L.length → (fv i).ownBlock = some b → (fv j).ownBlock = some b → i = j
  ok : S.ok
  blks : ∀ b ∈ S.L, b.ok

def rfoot (q : Nat) (lv : Value) (fv : Nat → Value) (n : Nat) : List Nat := q :: (lv.ownBlock.toList ++ (List.range n).flatMap fun k => (fv k).ownBlock.toList)

/-- at q lies the reference's arena whose state is S, in the blocks F -/
def RArena (w : World) (q : Nat) (F : List Nat) (S : St) : Prop := ∃ lv fv, RM w q lv fv S ∧ F = rfoot q lv fv S.L.length

section
variable {w : World} {q : Nat} {lv : Value} {fv : Nat → Value} {S : St}

theorem RM.drewN (H : RM w q lv fv S) (n : Nat) : RM (w.drewN n) q lv fv S := ⟨H.a, H.row, H.fvs, H.dist, H.ok, H.blks⟩

theorem RM.fields (H : RM w q lv fv S) : w.cell? ⟨q, 0, none⟩ = some (.int .i64 (S.n : Int)) ∧ w.cell? ⟨q, 1, none⟩ = some (.int .i64 (S.up : Int)) ∧ w.cell? ⟨q, 2, none⟩ = some lv :=
  ⟨cell_at H.a rfl, cell_at H.a rfl, cell_at H.a rfl⟩

theorem span_ge : ∀ l : List Blk, l.length ≤ span l
  | [] => by simp [span]
  | b :: l => by have := span_ge l; simp only [span, List.length_cons]; omega

theorem RM.count (H : RM w q lv fv S) : S.L.length ≤ 32768 := by
  have h1 := H.ok.fit
  have h2 := H.ok.n3
  have := span_ge S.L
  omega

theorem RM.rows (H : RM w q lv fv S) : (lv = .slice none 0 0 ∧ S.L.length = 0) ∨ ∃ g cap, lv = .slice (some ⟨g, 0, none⟩) S.L.length cap ∧ S.L.length ≤ cap ∧
    ∀ k, k < S.L.length → w.cell? ⟨g, k * 3, none⟩ = some (.int .i64 ((S.pos k : Nat) : Int)) ∧ w.cell? ⟨g, k * 3 + 1, none⟩ = some (.int .i64 (((S.blk k).tag : Nat) : Int)) ∧ w.cell? ⟨g, k * 3 + 2, none⟩ = some (fv k) := by
  obtain ⟨hl, hr⟩ := H.row
  rcases hr with hr | ⟨g, cap, cur, hv, _, hg, hnc, _, _, ht⟩
  · exact .inl hr
  · refine .inr ⟨g, cap, hv, hnc, fun k hk => ?_⟩
    have key : ∀ j v, j < 3 → (rcells S fv k)[j]? = some v → w.cell? ⟨g, k * 3 + j, none⟩ = some v := by
      intro j v hj hv
      rw [← rrow_get S fv hk hj, ← ht, List.getElem?_take] at hv
      split at hv
      · exact cell_at hg (by simpa using hv)
      · cases hv
    exact ⟨key 0 _ (by omega) rfl, key 1 _ (by omega) rfl, key 2 _ (by omega) rfl⟩

/-- a block's fields -/
theorem RM.fieldRow (H : RM w q lv fv S) {k : Nat} (hk : k < S.L.length) : ∃ a cap, fv k = .slice a (S.blk k).fs.length cap ∧
    ((a = none ∧ (S.blk k).fs.length = 0) ∨ ∃ g, a = some ⟨g, 0, none⟩ ∧ ∀ j, j < (S.blk k).fs.length → w.cell? ⟨g, j, none⟩ = some (.int .u64 (wat (S.blk k).fs j))) := by
  obtain ⟨hl, hr⟩ := H.fvs k hk
  rcases hr with ⟨h1, h2⟩ | ⟨g, cap, cur, hv, _, hg, hnc, _, _, ht⟩
  · exact ⟨none, 0, by rw [h1, h2], .inl ⟨rfl, h2⟩⟩
  · refine ⟨_, cap, hv, .inr ⟨g, rfl, fun j hj => ?_⟩⟩
    have h1 := words_get hj
    rw [← ht, List.getElem?_take] at h1
    split at h1
    · exact cell_at hg (by simpa using h1)
    · cases h1

theorem RM.baseLe (H : RM w q lv fv S) : S.base ≤ S.n := by unfold St.base; have h7 : S.n * S.up ≤ S.n * 1 := Nat.mul_le_mul_left _ H.ok.up; omega

theorem rbase_am (H : RM w q lv fv S) :
    Calls Try.prog 46 #[.pointer (some ⟨q, 0, none⟩)] w fun e w' => e = .returned (.int .i64 ((S.base : Nat) : Int)) ∧ ∃ n, w' = w.drewN n := by
  obtain ⟨f1, f2, f3⟩ := H.fields
  have h1 := H.ok.n3
  have h2 := H.baseLe
  have hb : (S.n : Int) * (S.up : Int) = ((S.base : Nat) : Int) := by unfold St.base; omega
  have hw : IntKind.i64.wrap ((S.n : Int) * (S.up : Int)) = ((S.base : Nat) : Int) := by rw [hb]; exact IntWalk.i64_in _ (by omega)
  have HB := Lib.hid hb
  clear hb f3
  go_enter Try.func46, Try.ntmps46
  go_wp2
  go_quiet (fail)
  go_wp2
  go_ret
  exact ⟨rfl, _, rfl⟩

/-- the cell behind the first k blocks -/
def St.upto (S : St) (k : Nat) : Nat := S.base + span (S.L.take k)

theorem upto_succ {S : St} {k : Nat} (hk : k < S.L.length) : S.upto (k + 1) = S.upto k + (1 + (S.blk k).fs.length) := by
  unfold St.upto; rw [span_take_succ S.L k (S.blk k) (blk_get hk)]; omega

theorem upto_len (S : St) : S.upto S.L.length = S.top := by unfold St.upto St.top; rw [List.take_length]

theorem RM.uptoLe (H : RM w q lv fv S) (k : Nat) : S.upto k ≤ 65536 := by
  have h1 := span_take_le S.L k
  have h2 := H.ok.fit
  have h3 := H.ok.n3
  have h4 := H.baseLe
  unfold St.upto
  omega

set_option maxHeartbeats 1000000 in
theorem rtop_am (H : RM w q lv fv S) :
    Calls Try.prog 22 #[.pointer (some ⟨q, 0, none⟩)] w fun e w' => e = .returned (.int .i64 ((S.top : Nat) : Int)) ∧ ∃ n, w' = w.drewN n := by
  obtain ⟨f1, f2, f3⟩ := H.fields
  have hb := rbase_am H
  have hcnt := H.count
  clear f1 f2
  rcases H.rows with ⟨rfl, hL⟩ | ⟨g, cap, rfl, hcap, hg⟩
  · have ht : S.top = S.base := by
      unfold St.top
      have : S.L = [] := List.eq_nil_of_length_eq_zero hL
      rw [this]; simp [span]
    rw [ht]
    go_enter Try.func22, Try.ntmps22
    go_wp2_with (go_at_call 46; refine hb.mono ?_; rintro e w' ⟨rfl, ⟨n, rfl⟩⟩)
    refine wp_loop_rounds 1 ?_
    rw [rounds_succ]
    go_wp2
    go_ret
    exact ⟨rfl, _, rfl⟩
  · go_enter Try.func22, Try.ntmps22
    go_wp2_with (go_at_call 46; refine hb.mono ?_; rintro e w' ⟨rfl, ⟨n, rfl⟩⟩)
    go_loop [3, 4] (fun u v => ∃ k : Nat, k ≤ S.L.length ∧ v = .int .i64 k ∧ u = .int .i64 ((S.upto k : Nat) : Int)) (fun _ v => S.L.length - (intOf v).toNat)
    case atStart => exact ⟨0, Nat.zero_le _, rfl, by simp [St.upto, span]⟩
    case round =>
      obtain ⟨k, hk, rfl, rfl⟩ := hrel
      by_cases hlt : k < S.L.length
      · obtain ⟨_, _, c3⟩ := hg k hlt
        obtain ⟨a, fc, hfv, _⟩ := H.fieldRow hlt
        rw [hfv] at c3
        have hs := Lib.hid (upto_succ hlt)
        have hs1 := H.uptoLe k
        have hs2 := (H.blks _ (List.mem_of_getElem? (blk_get hlt))).size
        have hdec : decide ((k : Int) < (S.L.length : Int)) = true := decide_eq_true (by omega)
        clear hfv hg
        go_wp2
        go_round
        case rel => exact ⟨k + 1, by omega, by go_num, by rw [hs.out]; go_num⟩
        case measure => simp [intOf]; omega
      · obtain rfl : k = S.L.length := by omega
        have hdec : decide ((S.L.length : Int) < (S.L.length : Int)) = false := decide_eq_false (by omega)
        clear hg
        go_wp2
        go_ret
        exact ⟨ret_i (by rw [upto_len]), _, rfl⟩
end

end Go.Proofs.Ytleoedjjepkhgaa
