import Derived.Test.YtleoedjjepkhgaaGiven
import Derived.Test.YtleoedjjepkhgaaRows
import Derived.ProofKit
import Derived.Deep.Slices
import Derived.ChangeSame
/- What comes in, opened; and what a law leaves, shut: shared by all rows of the seat. -/
namespace Go.Proofs.Ytleoedjjepkhgaa
open Go.ChangeShapes Go.WideShapes Go.RowKit Go.Deep

theorem Try.own : ownKnob Try.prog.godebug = none := by kernel_rfl
theorem Try.laidOut : laidOutB Try.prog = true := by kernel_rfl

section
variable {H : Type} {enc : TypeId × Value → H} {w : World} {base : Nat} {spare : Nat → Bool} {held : Bool}

def numOf : Value → Int
  | .int _ z => z
  | _ => 0

theorem i64_of_wf {n : Int} (h : (Lit.int .i64 n).wf = true) : -9223372036854775808 ≤ n ∧ n ≤ 9223372036854775807 := by
  simp only [Lit.wf, Bool.and_eq_true, decide_eq_true_eq] at h
  have h1 := h.1
  have h2 := h.2
  have e1 : IntKind.i64.min = -9223372036854775808 := rfl
  have e2 : IntKind.i64.max = 9223372036854775807 := rfl
  omega

set_option maxRecDepth 100000 in
theorem open_rds {fuel : Nat} {cs : List Value} {x : DataW H × List MemPlace} (h : DataW.trod enc Try.prog w base spare held fuel 22 cs = some x) :
    ∃ A l cap, cs = [.slice A l.length cap] ∧ RdS w A l ∧ (∀ k, k < l.length → (stpAt l k).ok) ∧ l.length ≤ 9223372036854775807 := by
  rcases open_slice Try.underlying22 h with ⟨hcs, _⟩ | ⟨a, len, cap, m, n, D, Pl, hcs, hb, hl, hm, hmm, hx, hV⟩
  · exact ⟨none, [], 0, hcs, fun k hk => absurd hk (by simp), fun k hk => absurd hk (by simp), by simp⟩
  · have hlm : len ≤ m := by rw [hmm]; split <;> omega
    have ce : Try.prog.cellsOf 25 = 4 := by kernel_rfl
    have c1 : Try.prog.cellsOf 3 = 1 := by kernel_rfl
    have each : ∀ i, i < len → ∃ q : Int × Int × Int × Int, (⟨q.1, q.2.1, q.2.2.1, q.2.2.2⟩ : Stp).ok ∧ w.cell? (a.add (i * 4)) = some (.int .i64 q.1) ∧ w.cell? (a.add (i * 4 + 1)) = some (.int .i64 q.2.1) ∧ w.cell? (a.add (i * 4 + 2)) = some (.int .i64 q.2.2.1) ∧ w.cell? (a.add (i * 4 + 3)) = some (.int .i64 q.2.2.2) := by
      intro i hi
      obtain ⟨cs', h1, h2⟩ := hV i (by omega)
      rw [ce] at h1
      obtain ⟨_, hlen, hcell⟩ := World.cells?_some h1
      obtain ⟨xs, k, hk, hxy, _, hxl, hf⟩ := DataW.trod_struct Try.underlying25 h2
      match xs, hxl, cs', hlen with
      | [y0, y1, y2, y3], _, [v0, v1, v2, v3], _ =>
        have g0 := hf 0 _ rfl
        have g1 := hf 1 _ rfl
        have g2 := hf 2 _ rfl
        have g3 := hf 3 _ rfl
        simp [c1] at g0 g1 g2 g3
        obtain ⟨z0, hz0, _, wf0⟩ := DataW.trod_int Try.underlying3 g0
        obtain ⟨z1, hz1, _, wf1⟩ := DataW.trod_int Try.underlying3 g1
        obtain ⟨z2, hz2, _, wf2⟩ := DataW.trod_int Try.underlying3 g2
        obtain ⟨z3, hz3, _, wf3⟩ := DataW.trod_int Try.underlying3 g3
        have e0 := hcell 0 (by omega)
        have e1 := hcell 1 (by omega)
        have e2 := hcell 2 (by omega)
        have e3 := hcell 3 (by omega)
        rw [add_add] at e0 e1 e2 e3
        simp only [List.cons.injEq, and_true] at hz0 hz1 hz2 hz3
        subst hz0 hz1 hz2 hz3
        exact ⟨(z0, z1, z2, z3), ⟨i64_of_wf wf0, i64_of_wf wf1, i64_of_wf wf2, i64_of_wf wf3⟩, by simpa using e0, by simpa using e1, by simpa using e2, by simpa using e3⟩
    obtain ⟨q, hq⟩ := choose_lt each
    have hat : ∀ k, k < len → stpAt ((List.range len).map fun i => (⟨(q i).1, (q i).2.1, (q i).2.2.1, (q i).2.2.2⟩ : Stp)) k = ⟨(q k).1, (q k).2.1, (q k).2.2.1, (q k).2.2.2⟩ := fun k hk => by simp [stpAt, List.getD, hk]
    refine ⟨some a, (List.range len).map fun i => (⟨(q i).1, (q i).2.1, (q i).2.2.1, (q i).2.2.2⟩ : Stp), cap, by simpa using hcs, fun k hk => ?_, fun k hk => ?_, by simp; unfold maxLen at hm; omega⟩
    · have hk' : k < len := by simpa using hk
      obtain ⟨_, c0, c1, c2, c3⟩ := hq k hk'
      have hbl := World.block_lt_of_cell? w _ c0
      rw [add_block] at hbl
      rw [hat k hk']
      refine ⟨a, rfl, hbl, c0, ?_, ?_, ?_⟩
      · have h := c1; rw [← add_add] at h; exact h
      · have h := c2; rw [← add_add] at h; exact h
      · have h := c3; rw [← add_add] at h; exact h
    · have hk' : k < len := by simpa using hk
      rw [hat k hk']
      exact (hq k hk').1

theorem Chg.below {W W' : World} (h : Chg [] W W') : Below W.heap.size W W' := ⟨h.os, h.tape, h.output, h.size, fun k hk => h.block k hk (by simp)⟩

/-- the arguments read as they did -/
theorem trodAll_stays {W W' : World} (hb : Below W.heap.size W W') : ∀ (ts : List TypeId) (vs : List Value) (ds : List (DataW H)) (p : List MemPlace), (∀ t ∈ ts, Try.prog.readableRec t = true ∧ t < Try.prog.types.size) → (∀ x ∈ p, x.block < W.heap.size) →
    DataW.TrodAll enc Try.prog W 0 (fun _ => true) true ts vs ds p → DataW.TrodAll enc Try.prog W' 0 (fun b => decide (b < W.heap.size)) true ts vs ds p
  | [], _, _, _, _, _, h => by
    obtain ⟨rfl, rfl, rfl⟩ := trodAll_nil h
    exact h
  | t :: ts, _, _, _, hr, hlt, h => by
    obtain ⟨v, vs1, d, ds1, a, b, rfl, rfl, rfl, h1, h2⟩ := trodAll_cons h
    have ht := hr t (by simp)
    exact ⟨a, b, Below.trod Try.laidOut ht.1 ht.2 h1 hb (fun x hx => hlt x (by simp [hx])), trodAll_stays hb ts vs1 ds1 b (fun t ht => hr t (by simp [ht])) (fun x hx => hlt x (by simp [hx])) h2, rfl⟩

/-- what a law leaves: true, and all as it was -/
theorem law_post {f : Func} {s : ChangeSpec} {apart fresh handsOn : Bool} {W W' : World} {args : Array Value} {ds : List (DataW H)} {p : List MemPlace} {ps : List TypeId} {rt : TypeId}
    (hp : f.params.toList = ps) (hf : f.resultTypes = #[rt]) (hrt : Try.prog.underlying rt = some .bool) (hsv : s.vars = []) (hr : ∀ t ∈ ps, Try.prog.readableRec t = true ∧ t < Try.prog.types.size)
    (hW : DataW.Whole enc Try.prog f.params.toList s.vars apart W args.toList ds [] p) (hA : DataW.TrodAll enc Try.prog W 0 (fun _ => true) true ps args.toList ds p)
    (hfn : (s.fn H (ds ++ [])) = { results := [.lit (.bool true)], args := ds }) (hch : Chg [] W W') :
    s.post enc Try.prog f apart fresh handsOn false W args (.bool true) W' := by
  have hlt : ∀ x ∈ p, x.block < W.heap.size := fun x hx => hW.lt x hx
  refine ⟨ds, [], p, [], p, [], hW, ?_, ?_, ?_, hch.below.frame _, fun h => by cases h⟩
  · rw [hfn, hf]; exact trodAll_mk1 (shut_bool hrt true)
  · rw [hfn, hp]; exact trodAll_stays hch.below ps _ _ _ hr hlt hA
  · rw [hfn, hsv]; rfl
end

end Go.Proofs.Ytleoedjjepkhgaa
