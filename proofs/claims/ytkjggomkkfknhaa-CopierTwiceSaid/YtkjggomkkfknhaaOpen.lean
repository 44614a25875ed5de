import Derived.Test.YtkjggomkkfknhaaLay
import Derived.Test.YtkjggomkkfknhaaRows
import Derived.ProofKit
import Derived.Deep.SlicePairs
/- What comes in, opened; and what a law leaves, shut: shared by all rows of the seat. -/
namespace Go.Proofs.Ytkjggomkkfknhaa
open Go.ChangeShapes Go.WideShapes Go.RowKit Go.Deep

theorem Try.own : ownKnob Try.prog.godebug = none := by kernel_rfl
theorem Try.laidOut : laidOutB Try.prog = true := by kernel_rfl

section
variable {H : Type} {enc : TypeId × Value → H} {w : World} {base : Nat} {spare : Nat → Bool} {held : Bool}

def numOf : Value → Int
  | .int _ z => z
  | _ => 0

theorem wd_of_wf {n : Int} (h : (Lit.int .u64 n).wf = true) : Wd n := by
  simp only [Lit.wf, Bool.and_eq_true, decide_eq_true_eq] at h
  unfold Wd
  have h1 := h.1
  have h2 := h.2
  have e1 : IntKind.u64.min = 0 := rfl
  have e2 : IntKind.u64.max = 18446744073709551615 := rfl
  omega

theorem open_rdw {fuel : Nat} {cs : List Value} {x : DataW H × List MemPlace} (h : DataW.trod enc Try.prog w base spare held fuel 23 cs = some x) :
    ∃ A l cap, cs = [.slice A l.length cap] ∧ RdW w A l ∧ (∀ x ∈ l, Wd x) ∧ l.length ≤ 9223372036854775807 := by
  rcases open_slice1 Try.underlying23 (by kernel_rfl) h with ⟨hcs, _⟩ | ⟨a, len, cap, m, n, V, D, Pl, hcs, hb, hl, hm, hmm, hx, hV⟩
  · exact ⟨none, [], 0, hcs, fun k hk => absurd hk (by simp), by simp, by simp⟩
  · have hlm : len ≤ m := by rw [hmm]; split <;> omega
    have hz : ∀ i, i < len → ∃ z, V i = .int .u64 z ∧ Wd z := fun i hi => by
      obtain ⟨z, hz, _, hwf⟩ := DataW.trod_int Try.underlying52 (hV i (by omega)).2
      exact ⟨z, by simpa using hz, wd_of_wf hwf⟩
    refine ⟨some a, (List.range len).map fun i => numOf (V i), cap, by simpa using hcs, fun k hk => ?_, fun x hx => ?_, by simp; unfold maxLen at hm; omega⟩
    · have hk' : k < len := by simpa using hk
      have hc := (hV k (by omega)).1
      have hbl := World.block_lt_of_cell? w _ hc
      rw [add_block] at hbl
      obtain ⟨z, hz, _⟩ := hz k hk'
      refine ⟨a, rfl, hbl, ?_⟩
      rw [hc, hz]
      simp [wat, List.getD, hk', hz, numOf]
    · simp only [List.mem_map, List.mem_range] at hx
      obtain ⟨i, hi, rfl⟩ := hx
      obtain ⟨z, hz, hw⟩ := hz i hi
      rw [hz]; exact hw

theorem open_rdb {fuel : Nat} {cs : List Value} {x : DataW H × List MemPlace} (h : DataW.trod enc Try.prog w base spare held fuel 22 cs = some x) :
    ∃ A L cap, cs = [.slice A L.length cap] ∧ RdB w A L ∧ BksOk L := by
  rcases open_slice_pairs Try.underlying22 Try.underlying61 (by kernel_rfl) rfl rfl (by kernel_rfl) (by kernel_rfl) h with ⟨hcs, _⟩ | ⟨a, len, cap, m, n, V0, V1, D0, D1, P0, P1, hcs, hb, hl, hm, hmm, hx, hV⟩
  · exact ⟨none, [], 0, hcs, fun k hk => absurd hk (by simp), fun k => by simp [bkAt], fun k => by simp [bkAt], fun k => by simp [bkAt], by simp⟩
  · have hlm : len ≤ m := by rw [hmm]; split <;> omega
    have each : ∀ i, i < len → ∃ q : (Int × List Int) × Option Addr × Nat, V0 i = .int .i64 q.1.1 ∧ (-9223372036854775808 ≤ q.1.1 ∧ q.1.1 ≤ 9223372036854775807) ∧ V1 i = .slice q.2.1 q.1.2.length q.2.2 ∧ RdW w q.2.1 q.1.2 ∧ (∀ x ∈ q.1.2, Wd x) ∧ q.1.2.length ≤ 9223372036854775807 := fun i hi => by
      obtain ⟨_, _, h0, h1⟩ := hV i (by omega)
      obtain ⟨z, hz, _, hwf⟩ := DataW.trod_int Try.underlying3 h0
      obtain ⟨A, l, c, hcs', hr, hw, hl'⟩ := open_rdw h1
      simp only [Lit.wf, Bool.and_eq_true, decide_eq_true_eq] at hwf
      have g1 := hwf.1
      have g2 := hwf.2
      have e1 : IntKind.i64.min = -9223372036854775808 := rfl
      have e2 : IntKind.i64.max = 9223372036854775807 := rfl
      exact ⟨((z, l), A, c), by simpa using hz, by dsimp only; omega, by simpa using hcs', hr, hw, hl'⟩
    obtain ⟨q, hq⟩ := choose_lt each
    have hat : ∀ k, k < len → bkAt ((List.range len).map fun i => (q i).1) k = (q k).1 := fun k hk => by simp [bkAt, List.getD, hk]
    have hout : ∀ k, ¬ k < len → bkAt ((List.range len).map fun i => (q i).1) k = (0, []) := fun k hk => by
      unfold bkAt; rw [List.getD_eq_getElem?_getD, List.getElem?_eq_none (by simp; omega)]; rfl
    refine ⟨some a, (List.range len).map fun i => (q i).1, cap, by simpa using hcs, fun k hk => ?_, fun k => ?_, fun k => ?_, fun k => ?_, by simp; unfold maxLen at hm; omega⟩
    · have hk' : k < len := by simpa using hk
      obtain ⟨c0, c1, _, _⟩ := hV k (by omega)
      have hbl := World.block_lt_of_cell? w _ c0
      rw [add_block] at hbl
      obtain ⟨e0, _, e1, hr, _⟩ := hq k hk'
      rw [hat k hk']
      exact ⟨a, (q k).2.1, (q k).2.2, rfl, hbl, by rw [c0, e0], by rw [c1, e1], hr⟩
    · by_cases hk : k < len
      · rw [hat k hk]; exact (hq k hk).2.1
      · rw [hout k hk]; simp
    · by_cases hk : k < len
      · rw [hat k hk]; exact (hq k hk).2.2.2.2.2
      · rw [hout k hk]; simp
    · by_cases hk : k < len
      · rw [hat k hk]; exact (hq k hk).2.2.2.2.1
      · rw [hout k hk]; simp

/-- what a law is given: any number, any blocks, any words -/
structure Given (W : World) (n : Int) (A : Option Addr) (L : List Bk) : Prop where
  lo : -9223372036854775808 ≤ n
  hi : n ≤ 9223372036854775807
  rd : RdB W A L
  ok : BksOk L

structure GivenW (W : World) (B : Option Addr) (l : List Int) : Prop where
  rd : RdW W B l
  wds : ∀ x ∈ l, Wd x
  len : l.length ≤ 9223372036854775807

set_option maxRecDepth 100000 in
theorem open_law3 {v0 v1 v2 : Value} {d0 d1 d2 : DataW H} {p0 p1 p2 : List MemPlace} (g0 : Value.okWide Try.prog w .any base 3 v0) (g1 : Value.okWide Try.prog w .any base 22 v1) (g2 : Value.okWide Try.prog w .any base 23 v2)
    (h0 : DataW.Trod enc Try.prog w 0 spare held 3 v0 d0 p0) (h1 : DataW.Trod enc Try.prog w 0 spare held 22 v1 d1 p1) (h2 : DataW.Trod enc Try.prog w 0 spare held 23 v2 d2 p2) :
    ∃ n A L cap B l cap2, v0 = .int .i64 n ∧ v1 = .slice A L.length cap ∧ v2 = .slice B l.length cap2 ∧ Given w n A L ∧ GivenW w B l := by
  obtain ⟨n, rfl, _, _, wn⟩ := open_int Try.underlying3 g0 h0
  obtain ⟨a1, l1, c1, rfl⟩ := okWide_slice Try.underlying22 g1
  obtain ⟨a2, l2, c2, rfl⟩ := okWide_slice Try.underlying23 g2
  obtain ⟨f1, hf1⟩ := h1
  obtain ⟨f2, hf2⟩ := h2
  obtain ⟨A, L, cap, e1, hr, hok⟩ := open_rdb hf1
  obtain ⟨B, l, cap2, e2, hr2, hw2, hl2⟩ := open_rdw hf2
  simp only [Lit.wf, Bool.and_eq_true, decide_eq_true_eq] at wn
  have m1 : IntKind.i64.min = -9223372036854775808 := rfl
  have m2 : IntKind.i64.max = 9223372036854775807 := rfl
  have q1 := wn.1
  have q2 := wn.2
  exact ⟨n, A, L, cap, B, l, cap2, rfl, by simpa [Value.cells] using e1, by simpa [Value.cells] using e2, ⟨by omega, by omega, hr, hok⟩, ⟨hr2, hw2, hl2⟩⟩

theorem Chg.below {W W' : World} (h : Chg [] W W') : Below W.heap.size W W' := ⟨h.os, h.tape, h.output, h.size, fun k hk => h.block k hk (by simp)⟩

/-- the arguments read as they did -/
theorem trodAll_stays {W W' : World} (hb : Below W.heap.size W W') : ∀ (ts : List TypeId) (vs : List Value) (ds : List (DataW H)) (p : List MemPlace), (∀ t ∈ ts, Try.prog.readableRec t = true ∧ t < Try.prog.types.size) → (∀ x ∈ p, x.block < W.heap.size) →
    DataW.TrodAll enc Try.prog W 0 (fun _ => true) true ts vs ds p → DataW.TrodAll enc Try.prog W' 0 (fun b => decide (b < W.heap.size)) true ts vs ds p
  | [], _, _, _, _, _, h => by
    obtain ⟨rfl, rfl, rfl⟩ := trodAll_nil h
    exact h
  | t :: ts, _, _, _, hr, hlt, h => by
    obtain ⟨v, vs1, d, ds1, a, b, rfl, rfl, rfl, h1, h2⟩ := trodAll_cons h
    have ht := hr t (by simp)
    exact ⟨a, b, Below.trod Try.laidOut ht.1 ht.2 h1 hb (fun x hx => hlt x (by simp [hx])), trodAll_stays hb ts vs1 ds1 b (fun t ht => hr t (by simp [ht])) (fun x hx => hlt x (by simp [hx])) h2, rfl⟩

/-- what a law leaves: true, and all as it was -/
theorem law_post {f : Func} {s : ChangeSpec} {apart fresh handsOn : Bool} {W W' : World} {args : Array Value} {ds : List (DataW H)} {p : List MemPlace} {ps : List TypeId} {rt : TypeId}
    (hp : f.params.toList = ps) (hf : f.resultTypes = #[rt]) (hrt : Try.prog.underlying rt = some .bool) (hsv : s.vars = []) (hr : ∀ t ∈ ps, Try.prog.readableRec t = true ∧ t < Try.prog.types.size)
    (hW : DataW.Whole enc Try.prog f.params.toList s.vars apart W args.toList ds [] p) (hA : DataW.TrodAll enc Try.prog W 0 (fun _ => true) true ps args.toList ds p)
    (hfn : (s.fn H (ds ++ [])) = { results := [.lit (.bool true)], args := ds }) (hch : Chg [] W W') :
    s.post enc Try.prog f apart fresh handsOn false W args (.bool true) W' := by
  have hlt : ∀ x ∈ p, x.block < W.heap.size := fun x hx => hW.lt x hx
  refine ⟨ds, [], p, [], p, [], hW, ?_, ?_, ?_, hch.below.frame _, fun h => by cases h⟩
  · rw [hfn, hf]; exact trodAll_mk1 (shut_bool hrt true)
  · rw [hfn, hp]; exact trodAll_stays hch.below ps _ _ _ hr hlt hA
  · rw [hfn, hsv]; rfl
end

end Go.Proofs.Ytkjggomkkfknhaa
