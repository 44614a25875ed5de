import Derived.Test.YtleoedjjepkhgaaMem
import Derived.Deep.QuietTactic
import Derived.BigQuiet
/- (*Arena).find: the block that a word leads to. -/
namespace Go.Proofs.Ytleoedjjepkhgaa
open Go.RowKit

/-- what find answers: the block's address (or -1) and the distance -/
def St.fnd (S : St) (x : Int) : Int × Int :=
  match S.find x with
  | some p => ((S.pos p.1 : Nat), (p.2 : Nat))
  | none => (-1, 0)

theorem find_small {S : St} {x : Int} (h : addr x < S.pos 0) : S.find x = none := by
  cases hf : S.find x with
  | none => rfl
  | some q =>
    obtain ⟨_, b, hb, hr, _⟩ := (find_iff S x q.1 q.2).1 hf
    have : S.pos 0 ≤ S.pos q.1 := by unfold St.pos; simp [span]
    omega

theorem find_eq {S : St} {x : Int} {k : Nat} (hk : k < S.L.length) (he : addr x = S.pos k) : S.find x = some (k, 0) :=
  (find_iff S x k 0).2 ⟨by rw [he]; unfold St.pos; omega, S.blk k, blk_get hk, by omega, .inl rfl⟩

/-- behind the start of block k, ahead of the next one's -/
theorem find_in {S : St} {x : Int} {k : Nat} (hk : k < S.L.length) (h1 : S.pos k < addr x) (h2 : ∀ j, k < j → j < S.L.length → addr x < S.pos j) :
    S.find x = if slotAt (S.blk k) (addr x - S.pos k) then some (k, addr x - S.pos k) else none := by
  have only : ∀ q, S.find x = some q → q = (k, addr x - S.pos k) ∧ slotAt (S.blk k) (addr x - S.pos k) = true := by
    intro q hq
    obtain ⟨_, b, hb, hr, hd⟩ := (find_iff S x q.1 q.2).1 hq
    have hlt := find_lt hq
    have hbk : S.blk q.1 = b := by have := blk_get hlt; rw [hb] at this; simpa using this.symm
    have hle := dist_le hd
    have e : q.1 = k := by
      rcases Nat.lt_trichotomy q.1 k with c | c | c
      · have := pos_lt c hk; rw [hbk] at this; omega
      · exact c
      · have := h2 q.1 c hlt; omega
    have e2 : q.2 = addr x - S.pos k := by rw [← e]; omega
    refine ⟨Prod.ext e e2, ?_⟩
    rcases hd with hd | hd
    · rw [e] at hr; omega
    · rw [← e2, ← e, hbk]; exact hd
  split
  · rename_i hs
    exact (find_iff S x k _).2 ⟨by unfold St.pos at h1; omega, S.blk k, blk_get hk, by omega, .inr hs⟩
  · rename_i hs
    cases hf : S.find x with
    | none => rfl
    | some q => exact absurd (only q hf).2 hs

set_option maxHeartbeats 1000000 in
theorem find_far {w : World} {p h c g L cap k po A sz tg N2 : Nat} {x : Int} (_hcap : L ≤ cap) (hk : k < L) (hL : L ≤ 32768) (hpo : 1 ≤ po) (hd1 : po < A) (htg : tg ≤ 255) (hsz : sz ≤ 4096) (hin : po + sz ≤ N2) (_hN : N2 ≤ 65536) (hdb : A ≤ 2147483647)
    (hA : ∀ w : World, Calls Try.prog 61 #[.int .u64 x] w fun e w' => e = .returned (.int .i64 (A : Int)) ∧ w' = w)
    (hI : ∀ w : World, Calls Try.prog 62 #[.int .u64 x] w fun e w' => e = .returned (.bool false) ∧ w' = w)
    (hS : ∀ w1 : World, w1.heap = w.heap → Calls Try.prog 63 #[.slice (some ⟨g, 0, none⟩) L cap, .int .i64 (A : Int)] w1 fun e w' => e = .returned (.tuple #[.int .i64 ((k : Int) + 1), .bool false]) ∧ w' = w1)
    (f1 : w.cell? ⟨p, 0, none⟩ = some (.pointer (some ⟨h, 0, none⟩))) (f2 : w.cell? ⟨p, 1, none⟩ = some (.slice (some ⟨g, 0, none⟩) L cap)) (f3 : w.cell? ⟨h, 0, none⟩ = some (.slice (some ⟨c, 0, none⟩) N2 N2))
    (hgk : w.cell? ⟨g, k, none⟩ = some (.int .i64 (po : Int))) (hhead : w.cell? ⟨c, po - 1, none⟩ = some (.int .u64 (2 * (256 * (sz : Int) + (tg : Int)) + 1)))
    (c1 : po + sz ≤ A) :
    Calls Try.prog 48 #[.pointer (some ⟨p, 0, none⟩), .int .u64 x] w fun e w' => e = .returned (.tuple #[.int .i64 (-1), .int .i64 0]) ∧ ∃ n, w' = w.drewN n := by
  have b0 : ((A : Int) == 0) = false := beq_eq_false_iff_ne.2 (by omega)
  have b1 : (((k : Int) + 1) == 0) = false := beq_eq_false_iff_ne.2 (by omega)
  have c2 : decide ((A : Int) - (po : Int) < (sz : Int)) = false := decide_eq_false (by omega)
  go_enter Try.func48, Try.ntmps48
  go_wp2_with (first | (go_at_call 61; refine (hA _).mono ?_; rintro e w' ⟨rfl, rfl⟩) | (go_at_call 62; refine (hI _).mono ?_; rintro e w' ⟨rfl, rfl⟩) | (go_at_call 63; refine (hS _ rfl).mono ?_; rintro e w' ⟨rfl, rfl⟩))
  go_quiet ((first | (go_at_call 50; exact Calls.quiet_of_same (wSize_any tg sz (by omega) (by omega) (by omega) (by omega) _)) | (go_at_call 49; exact Calls.quiet_of_same (wTag_any tg sz (by omega) (by omega) (by omega) (by omega) _)) | (go_at_call 64; exact Calls.quiet_of_same (wHead_any _ _ (by omega) (by omega) (by omega) (by omega) _))))
  go_wp2
  go_ret2
  exact ⟨rfl, _, rfl⟩

set_option maxHeartbeats 1000000 in
theorem find_tag {w : World} {p h c g L cap k po A sz tg N2 : Nat} {x : Int} (_hcap : L ≤ cap) (hk : k < L) (hL : L ≤ 32768) (hpo : 1 ≤ po) (hd1 : po < A) (htg : tg ≤ 255) (hsz : sz ≤ 4096) (hin : po + sz ≤ N2) (_hN : N2 ≤ 65536) (hdb : A ≤ 2147483647)
    (hA : ∀ w : World, Calls Try.prog 61 #[.int .u64 x] w fun e w' => e = .returned (.int .i64 (A : Int)) ∧ w' = w)
    (hI : ∀ w : World, Calls Try.prog 62 #[.int .u64 x] w fun e w' => e = .returned (.bool false) ∧ w' = w)
    (hS : ∀ w1 : World, w1.heap = w.heap → Calls Try.prog 63 #[.slice (some ⟨g, 0, none⟩) L cap, .int .i64 (A : Int)] w1 fun e w' => e = .returned (.tuple #[.int .i64 ((k : Int) + 1), .bool false]) ∧ w' = w1)
    (f1 : w.cell? ⟨p, 0, none⟩ = some (.pointer (some ⟨h, 0, none⟩))) (f2 : w.cell? ⟨p, 1, none⟩ = some (.slice (some ⟨g, 0, none⟩) L cap)) (f3 : w.cell? ⟨h, 0, none⟩ = some (.slice (some ⟨c, 0, none⟩) N2 N2))
    (hgk : w.cell? ⟨g, k, none⟩ = some (.int .i64 (po : Int))) (hhead : w.cell? ⟨c, po - 1, none⟩ = some (.int .u64 (2 * (256 * (sz : Int) + (tg : Int)) + 1)))
    (c1 : A < po + sz) (c2 : ((tg : Int) == 200) = false) :
    Calls Try.prog 48 #[.pointer (some ⟨p, 0, none⟩), .int .u64 x] w fun e w' => e = .returned (.tuple #[.int .i64 (-1), .int .i64 0]) ∧ ∃ n, w' = w.drewN n := by
  have b0 : ((A : Int) == 0) = false := beq_eq_false_iff_ne.2 (by omega)
  have b1 : (((k : Int) + 1) == 0) = false := beq_eq_false_iff_ne.2 (by omega)
  have c3 : decide ((A : Int) - (po : Int) < (sz : Int)) = true := decide_eq_true (by omega)
  go_enter Try.func48, Try.ntmps48
  go_wp2_with (first | (go_at_call 61; refine (hA _).mono ?_; rintro e w' ⟨rfl, rfl⟩) | (go_at_call 62; refine (hI _).mono ?_; rintro e w' ⟨rfl, rfl⟩) | (go_at_call 63; refine (hS _ rfl).mono ?_; rintro e w' ⟨rfl, rfl⟩))
  go_quiet ((first | (go_at_call 50; exact Calls.quiet_of_same (wSize_any tg sz (by omega) (by omega) (by omega) (by omega) _)) | (go_at_call 49; exact Calls.quiet_of_same (wTag_any tg sz (by omega) (by omega) (by omega) (by omega) _)) | (go_at_call 64; exact Calls.quiet_of_same (wHead_any _ _ (by omega) (by omega) (by omega) (by omega) _))))
  go_wp2
  go_ret2
  exact ⟨rfl, _, rfl⟩

set_option maxHeartbeats 1000000 in
theorem find_not {w : World} {p h c g L cap k po A sz tg N2 : Nat} {x y : Int} (_hcap : L ≤ cap) (hk : k < L) (hL : L ≤ 32768) (hpo : 1 ≤ po) (hd1 : po < A) (htg : tg ≤ 255) (hsz : sz ≤ 4096) (hin : po + sz ≤ N2) (_hN : N2 ≤ 65536) (hdb : A ≤ 2147483647)
    (hA : ∀ w : World, Calls Try.prog 61 #[.int .u64 x] w fun e w' => e = .returned (.int .i64 (A : Int)) ∧ w' = w)
    (hI : ∀ w : World, Calls Try.prog 62 #[.int .u64 x] w fun e w' => e = .returned (.bool false) ∧ w' = w)
    (hS : ∀ w1 : World, w1.heap = w.heap → Calls Try.prog 63 #[.slice (some ⟨g, 0, none⟩) L cap, .int .i64 (A : Int)] w1 fun e w' => e = .returned (.tuple #[.int .i64 ((k : Int) + 1), .bool false]) ∧ w' = w1)
    (f1 : w.cell? ⟨p, 0, none⟩ = some (.pointer (some ⟨h, 0, none⟩))) (f2 : w.cell? ⟨p, 1, none⟩ = some (.slice (some ⟨g, 0, none⟩) L cap)) (f3 : w.cell? ⟨h, 0, none⟩ = some (.slice (some ⟨c, 0, none⟩) N2 N2))
    (hgk : w.cell? ⟨g, k, none⟩ = some (.int .i64 (po : Int))) (hhead : w.cell? ⟨c, po - 1, none⟩ = some (.int .u64 (2 * (256 * (sz : Int) + (tg : Int)) + 1)))
    (c1 : A < po + sz) (c2 : ((tg : Int) == 200) = true) (hcell : w.cell? ⟨c, A - 1, none⟩ = some (.int .u64 y)) (c4 : (y == 2 * (256 * ((A : Int) - (po : Int)) + 201) + 1) = false) :
    Calls Try.prog 48 #[.pointer (some ⟨p, 0, none⟩), .int .u64 x] w fun e w' => e = .returned (.tuple #[.int .i64 (-1), .int .i64 0]) ∧ ∃ n, w' = w.drewN n := by
  have b0 : ((A : Int) == 0) = false := beq_eq_false_iff_ne.2 (by omega)
  have b1 : (((k : Int) + 1) == 0) = false := beq_eq_false_iff_ne.2 (by omega)
  have c3 : decide ((A : Int) - (po : Int) < (sz : Int)) = true := decide_eq_true (by omega)
  go_enter Try.func48, Try.ntmps48
  go_wp2_with (first | (go_at_call 61; refine (hA _).mono ?_; rintro e w' ⟨rfl, rfl⟩) | (go_at_call 62; refine (hI _).mono ?_; rintro e w' ⟨rfl, rfl⟩) | (go_at_call 63; refine (hS _ rfl).mono ?_; rintro e w' ⟨rfl, rfl⟩))
  go_quiet ((first | (go_at_call 50; exact Calls.quiet_of_same (wSize_any tg sz (by omega) (by omega) (by omega) (by omega) _)) | (go_at_call 49; exact Calls.quiet_of_same (wTag_any tg sz (by omega) (by omega) (by omega) (by omega) _)) | (go_at_call 64; exact Calls.quiet_of_same (wHead_any _ _ (by omega) (by omega) (by omega) (by omega) _))))
  go_wp2
  go_ret2
  exact ⟨rfl, _, rfl⟩

set_option maxHeartbeats 1000000 in
theorem find_yes {w : World} {p h c g L cap k po A sz tg N2 : Nat} {x y : Int} (_hcap : L ≤ cap) (hk : k < L) (hL : L ≤ 32768) (hpo : 1 ≤ po) (hd1 : po < A) (htg : tg ≤ 255) (hsz : sz ≤ 4096) (hin : po + sz ≤ N2) (_hN : N2 ≤ 65536) (hdb : A ≤ 2147483647)
    (hA : ∀ w : World, Calls Try.prog 61 #[.int .u64 x] w fun e w' => e = .returned (.int .i64 (A : Int)) ∧ w' = w)
    (hI : ∀ w : World, Calls Try.prog 62 #[.int .u64 x] w fun e w' => e = .returned (.bool false) ∧ w' = w)
    (hS : ∀ w1 : World, w1.heap = w.heap → Calls Try.prog 63 #[.slice (some ⟨g, 0, none⟩) L cap, .int .i64 (A : Int)] w1 fun e w' => e = .returned (.tuple #[.int .i64 ((k : Int) + 1), .bool false]) ∧ w' = w1)
    (f1 : w.cell? ⟨p, 0, none⟩ = some (.pointer (some ⟨h, 0, none⟩))) (f2 : w.cell? ⟨p, 1, none⟩ = some (.slice (some ⟨g, 0, none⟩) L cap)) (f3 : w.cell? ⟨h, 0, none⟩ = some (.slice (some ⟨c, 0, none⟩) N2 N2))
    (hgk : w.cell? ⟨g, k, none⟩ = some (.int .i64 (po : Int))) (hhead : w.cell? ⟨c, po - 1, none⟩ = some (.int .u64 (2 * (256 * (sz : Int) + (tg : Int)) + 1)))
    (c1 : A < po + sz) (c2 : ((tg : Int) == 200) = true) (hcell : w.cell? ⟨c, A - 1, none⟩ = some (.int .u64 y)) (c4 : (y == 2 * (256 * ((A : Int) - (po : Int)) + 201) + 1) = true) :
    Calls Try.prog 48 #[.pointer (some ⟨p, 0, none⟩), .int .u64 x] w fun e w' => e = .returned (.tuple #[.int .i64 (po : Int), .int .i64 ((A : Int) - (po : Int))]) ∧ ∃ n, w' = w.drewN n := by
  have b0 : ((A : Int) == 0) = false := beq_eq_false_iff_ne.2 (by omega)
  have b1 : (((k : Int) + 1) == 0) = false := beq_eq_false_iff_ne.2 (by omega)
  have c3 : decide ((A : Int) - (po : Int) < (sz : Int)) = true := decide_eq_true (by omega)
  go_enter Try.func48, Try.ntmps48
  go_wp2_with (first | (go_at_call 61; refine (hA _).mono ?_; rintro e w' ⟨rfl, rfl⟩) | (go_at_call 62; refine (hI _).mono ?_; rintro e w' ⟨rfl, rfl⟩) | (go_at_call 63; refine (hS _ rfl).mono ?_; rintro e w' ⟨rfl, rfl⟩))
  go_quiet ((first | (go_at_call 50; exact Calls.quiet_of_same (wSize_any tg sz (by omega) (by omega) (by omega) (by omega) _)) | (go_at_call 49; exact Calls.quiet_of_same (wTag_any tg sz (by omega) (by omega) (by omega) (by omega) _)) | (go_at_call 64; exact Calls.quiet_of_same (wHead_any _ _ (by omega) (by omega) (by omega) (by omega) _))))
  go_wp2
  go_ret2
  exact ⟨rfl, _, rfl⟩

set_option maxHeartbeats 1000000 in
theorem find_am {w : World} {p h c : Nat} {sv : Value} {cs : List Int} {S : St} (H : AM w p h c sv cs S) (x : Int) (h0 : 0 ≤ x) (h1 : x < 18446744073709551616) :
    Calls Try.prog 48 #[.pointer (some ⟨p, 0, none⟩), .int .u64 x] w fun e w' => e = .returned (.tuple #[.int .i64 (S.fnd x).1, .int .i64 (S.fnd x).2]) ∧ ∃ n, w' = w.drewN n := by
  obtain ⟨f1, f2, f3, f4, f5, f6⟩ := H.fields
  have hA := wAddr_any x h0 h1
  by_cases hn : isNum x = true
  · have hz : S.find x = none := find_odd S x (by simpa [isNum] using hn)
    have hr : S.fnd x = (-1, 0) := by unfold St.fnd; rw [hz]
    rw [hr]
    have Hn := Lib.hid hn
    clear hn hz hr f4 f5 f6
    go_enter Try.func48, Try.ntmps48
    go_wp2_with (first | (go_at_call 61; refine (hA _).mono ?_; rintro e w' ⟨rfl, rfl⟩) | (go_at_call 62; refine (wIsInt_any _ h0 h1 _).mono ?_; rintro e w' ⟨rfl, rfl⟩; rw [Hn.out]))
    go_ret2
    exact ⟨rfl, 0, rfl⟩
  · have Hn := Lib.hid (show isNum x = false by simpa using hn)
    clear hn
    have hP : ∀ k, addr x < S.pos 0 → k = S.fnd x → k = (-1, 0) := fun k h e => by rw [e]; unfold St.fnd; rw [find_small h]
    have hcnt := H.count
    rcases H.row with ⟨rfl, hL⟩ | ⟨g, cap, rfl, hcap, hg⟩
    · -- no block at all
      have hr : S.fnd x = (-1, 0) := by
        unfold St.fnd
        cases hf : S.find x with
        | none => rfl
        | some q => have := find_lt hf; omega
      rw [hr]
      generalize addr x = a at *
      clear hr hP f4 f5 f6 f3
      by_cases ha : a = 0
      · subst ha
        go_enter Try.func48, Try.ntmps48
        go_wp2_with (first | (go_at_call 61; refine (hA _).mono ?_; rintro e w' ⟨rfl, rfl⟩) | (go_at_call 62; refine (wIsInt_any _ h0 h1 _).mono ?_; rintro e w' ⟨rfl, rfl⟩; rw [Hn.out]))
        go_ret2
        exact ⟨rfl, 0, rfl⟩
      · have hb : ((a : Int) == 0) = false := beq_eq_false_iff_ne.2 (by omega)
        go_enter Try.func48, Try.ntmps48
        go_wp2_with (first | (go_at_call 61; refine (hA _).mono ?_; rintro e w' ⟨rfl, rfl⟩) | (go_at_call 62; refine (wIsInt_any _ h0 h1 _).mono ?_; rintro e w' ⟨rfl, rfl⟩; rw [Hn.out]) | (go_at_call 63; refine (search_nil a _).mono ?_; rintro e w' ⟨rfl, rfl⟩))
        go_ret2
        exact ⟨rfl, 0, rfl⟩
    · obtain ⟨i, hF⟩ := found_ex (starts_rising S) (addr x)
      have hS : ∀ w1 : World, w1.heap = w.heap → Calls Try.prog 63 #[.slice (some ⟨g, 0, none⟩) S.L.length cap, .int .i64 (addr x : Nat)] w1 fun e w' => e = .returned (.tuple #[.int .i64 i, .bool (hasAt S.starts (addr x) i)]) ∧ w' = w1 := by
        intro w1 hw1
        have hc1 : ∀ j, j < S.starts.length → w1.cell? ⟨g, j, none⟩ = some (.int .i64 ((nth S.starts j : Nat) : Int)) := by
          intro j hj
          rw [starts_length] at hj
          have := hg j hj
          simp only [World.cell?, hw1] at this ⊢
          exact this
        have := search_at g cap S.starts (addr x) i w1 (starts_rising S) (by rw [starts_length]; omega) hF hc1
        rw [starts_length] at this
        exact this
      by_cases ha : addr x = 0
      · have hr : S.fnd x = (-1, 0) := by unfold St.fnd; rw [find_small (by rw [ha]; unfold St.pos; omega)]
        rw [hr]
        clear hr hP hS hF
        rw [ha] at hA
        clear ha f4 f5 f6
        go_enter Try.func48, Try.ntmps48
        go_wp2_with (first | (go_at_call 61; refine (hA _).mono ?_; rintro e w' ⟨rfl, rfl⟩) | (go_at_call 62; refine (wIsInt_any _ h0 h1 _).mono ?_; rintro e w' ⟨rfl, rfl⟩; rw [Hn.out]))
        go_ret2
        exact ⟨rfl, 0, rfl⟩
      · have hb : (((addr x : Nat) : Int) == 0) = false := beq_eq_false_iff_ne.2 (by omega)
        clear hP
        by_cases hh : hasAt S.starts (addr x) i = true
        · have hin : i < S.L.length ∧ S.pos i = addr x := by
            simp only [hasAt, Bool.and_eq_true, decide_eq_true_eq, starts_length] at hh
            exact ⟨hh.1, by rw [← starts_nth S hh.1]; exact hh.2⟩
          have hr : S.fnd x = (((addr x : Nat) : Int), 0) := by unfold St.fnd; rw [find_eq hin.1 hin.2.symm]; simp [hin.2]
          rw [hr]
          rw [hh] at hS
          clear hr hin hh hF ha
          generalize addr x = a at *
          go_enter Try.func48, Try.ntmps48
          go_wp2_with (first | (go_at_call 61; refine (hA _).mono ?_; rintro e w' ⟨rfl, rfl⟩) | (go_at_call 62; refine (wIsInt_any _ h0 h1 _).mono ?_; rintro e w' ⟨rfl, rfl⟩; rw [Hn.out]) | (go_at_call 63; refine (hS _ rfl).mono ?_; rintro e w' ⟨rfl, rfl⟩))
          go_ret2
          exact ⟨rfl, 0, rfl⟩
        · replace hh : hasAt S.starts (addr x) i = false := by simpa using hh
          rw [hh] at hS
          have hne : ∀ j, j < S.L.length → i ≤ j → addr x < S.pos j := by
            intro j hj hij
            have h3 := hF.hi j hij (by rw [starts_length]; exact hj)
            rw [starts_nth S hj] at h3
            rcases Nat.eq_or_lt_of_le h3 with h4 | h4
            · exfalso
              -- the row rises, so the first one that is not less is it
              have h5 : S.pos i ≤ S.pos j := by
                have := nth_mono (starts_rising S) hij (by rw [starts_length]; exact hj)
                rwa [starts_nth S (by omega), starts_nth S hj] at this
              have h6 := hF.hi i (Nat.le_refl _) (by rw [starts_length]; omega)
              rw [starts_nth S (by omega)] at h6
              simp only [hasAt, starts_length, Bool.and_eq_false_iff, decide_eq_false_iff_not] at hh
              rcases hh with hh | hh
              · omega
              · rw [starts_nth S (by omega)] at hh; omega
            · exact h4
          have hlo : ∀ j, j < i → S.pos j < addr x := by
            intro j hj
            have h3 := hF.lo j hj
            have h4 := hF.le
            rw [starts_length] at h4
            rwa [starts_nth S (by omega)] at h3
          have hile : i ≤ S.L.length := by have := hF.le; rwa [starts_length] at this
          clear hF hh
          by_cases hi0 : i = 0
          · have hr : S.fnd x = (-1, 0) := by
              unfold St.fnd
              by_cases hL : S.L.length = 0
              · cases hf : S.find x with
                | none => rfl
                | some q => have := find_lt hf; omega
              · rw [find_small (hne 0 (by omega) (by omega))]
            rw [hr]
            subst hi0
            clear hr hne hlo ha hile
            generalize addr x = a at *
            go_enter Try.func48, Try.ntmps48
            go_wp2_with (first | (go_at_call 61; refine (hA _).mono ?_; rintro e w' ⟨rfl, rfl⟩) | (go_at_call 62; refine (wIsInt_any _ h0 h1 _).mono ?_; rintro e w' ⟨rfl, rfl⟩; rw [Hn.out]) | (go_at_call 63; refine (hS _ rfl).mono ?_; rintro e w' ⟨rfl, rfl⟩))
            go_ret2
            exact ⟨rfl, 0, rfl⟩
          · obtain ⟨k, rfl⟩ : ∃ k, i = k + 1 := ⟨i - 1, by omega⟩
            have hk : k < S.L.length := by omega
            have hf := find_in hk (hlo k (by omega)) (fun j hj hj' => hne j hj' (by omega))
            have hpos := H.posLe hk
            have hlt := hlo k (by omega)
            have hgk := hg k hk
            rw [starts_nth S hk] at hgk
            have hhead := H.cell (j := S.pos k - 1) (by omega)
            rw [H.cells.head k hk] at hhead
            unfold hd at hhead
            have hbo := H.blkOk hk
            have hbt : (S.blk k).tag ≤ 255 := by have := hbo.tag; unfold tagOk at this; omega
            have hbs := hbo.size
            have hfield : ∀ d, 1 ≤ d → d < (S.blk k).fs.length → w.cell? ⟨c, S.pos k + d - 1, none⟩ = some (.int .u64 (wat (S.blk k).fs (d - 1))) ∧ Wd (wat (S.blk k).fs (d - 1)) := by
              intro d hd1 hd2
              have e := H.cells.field k hk (d - 1) (by omega)
              have h3 := H.cell (j := S.pos k + (d - 1)) (by omega)
              rw [e] at h3
              have h4 := H.cellRng (j := S.pos k + (d - 1)) (by omega)
              rw [e] at h4
              refine ⟨?_, h4⟩
              rw [show S.pos k + d - 1 = S.pos k + (d - 1) by omega]
              exact h3
            have hslot : slotAt (S.blk k) (addr x - S.pos k) = ((S.blk k).tag == 200 && decide (addr x - S.pos k < (S.blk k).fs.length) && (wat (S.blk k).fs (addr x - S.pos k - 1) == hd 201 (addr x - S.pos k))) := by
              unfold slotAt wat
              rw [show decide (1 ≤ addr x - S.pos k) = true from decide_eq_true (by omega)]
              simp
            have hfnd : S.fnd x = if slotAt (S.blk k) (addr x - S.pos k) = true then (((S.pos k : Nat) : Int), ((addr x - S.pos k : Nat) : Int)) else (-1, 0) := by
              unfold St.fnd
              rw [hf]
              by_cases hq : slotAt (S.blk k) (addr x - S.pos k) = true
              · rw [if_pos hq, if_pos hq]
              · rw [if_neg hq, if_neg hq]
            rw [hfnd]
            have hd1 : 1 ≤ addr x - S.pos k := by omega
            have hdb : addr x ≤ 2147483647 := by unfold addr; split <;> omega
            have hI : ∀ w : World, Calls Try.prog 62 #[.int .u64 x] w fun e w' => e = .returned (.bool false) ∧ w' = w := fun w => (wIsInt_any x h0 h1 w).mono fun e w' ⟨he, hw⟩ => ⟨by rw [he, Hn.out], hw⟩
            have hS' : ∀ w1 : World, w1.heap = w.heap → Calls Try.prog 63 #[.slice (some ⟨g, 0, none⟩) S.L.length cap, .int .i64 ((addr x : Nat) : Int)] w1 fun e w' => e = .returned (.tuple #[.int .i64 ((k : Int) + 1), .bool false]) ∧ w' = w1 := fun w1 h1 => (hS w1 h1).mono fun e w' ⟨he, hw⟩ => ⟨by rw [he]; rfl, hw⟩
            have hq1 : S.pos k + (S.blk k).fs.length ≤ 2 * S.n := by omega
            have hq2 : 2 * S.n ≤ 65536 := by omega
            have hq3 : 1 ≤ S.pos k := by omega
            have hdd : ((addr x - S.pos k : Nat) : Int) = (addr x : Int) - (S.pos k : Int) := by omega
            rw [hdd]
            clear hfnd hf hlo hg hne hS hb ha
            by_cases c1 : addr x - S.pos k < (S.blk k).fs.length
            · obtain ⟨hcell, hwd0, hwd1⟩ := hfield (addr x - S.pos k) hd1 c1
              rw [show S.pos k + (addr x - S.pos k) - 1 = addr x - 1 by omega] at hcell
              by_cases c2 : (S.blk k).tag = 200
              · by_cases c3 : wat (S.blk k).fs (addr x - S.pos k - 1) = hd 201 (addr x - S.pos k)
                · have hs : slotAt (S.blk k) (addr x - S.pos k) = true := by rw [hslot]; simp [c1, c2, c3]
                  rw [if_pos hs]
                  exact find_yes hcap hk hcnt hq3 (by omega) hbt hbs hq1 hq2 hdb hA hI hS' f1 f2 f3 hgk hhead (by omega) (beq_iff_eq.2 (by omega)) hcell (beq_iff_eq.2 (by rw [c3]; unfold hd; omega))
                · have hs : slotAt (S.blk k) (addr x - S.pos k) = false := by rw [hslot]; simp [c3]
                  rw [if_neg (by rw [hs]; simp)]
                  exact find_not hcap hk hcnt hq3 (by omega) hbt hbs hq1 hq2 hdb hA hI hS' f1 f2 f3 hgk hhead (by omega) (beq_iff_eq.2 (by omega)) hcell (beq_eq_false_iff_ne.2 (fun h => c3 (by rw [h]; unfold hd; omega)))
              · have hs : slotAt (S.blk k) (addr x - S.pos k) = false := by rw [hslot]; simp [c2]
                rw [if_neg (by rw [hs]; simp)]
                exact find_tag hcap hk hcnt hq3 (by omega) hbt hbs hq1 hq2 hdb hA hI hS' f1 f2 f3 hgk hhead (by omega) (beq_eq_false_iff_ne.2 (by omega))
            · have hs : slotAt (S.blk k) (addr x - S.pos k) = false := by rw [hslot]; simp [c1]
              rw [if_neg (by rw [hs]; simp)]
              exact find_far hcap hk hcnt hq3 (by omega) hbt hbs hq1 hq2 hdb hA hI hS' f1 f2 f3 hgk hhead (by omega)

end Go.Proofs.Ytleoedjjepkhgaa
