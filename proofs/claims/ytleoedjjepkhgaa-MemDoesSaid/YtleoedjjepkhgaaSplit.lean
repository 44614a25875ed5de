import Derived.Test.YtleoedjjepkhgaaLate
import Derived.OrdersHeld
/- A region that draws its order: a head of reads and quiet calls, for whose last one all that follows waits; then loads that may come whenever they like, beside a row of operations of which some make memory. -/
namespace Go.Proofs.Ytleoedjjepkhgaa

section
variable {P : Program} {ops : Array Oper} {md : Region.Mode} {C : World → Prop} {Q : Exit → Act → World → Prop} {S : World → Prop}

/-- each of the head is waited for within the head, and all that follows waits for the head's last -/
def headB (md : Region.Mode) (ops : Array Oper) (n : Nat) : Bool :=
  ((List.range (n - 1)).all fun i => (List.range n).any fun j => decide (i < j) && Region.waitsFor md ops j i) && ((List.range ops.size).all fun t => decide (t < n) || Region.waitsFor md ops t (n - 1))

theorem head_waits {n : Nat} {done : Array Bool} (hs : headB md ops n = true) (_hn : n < ops.size) (inv : HeadInv md ops n done) :
    ∀ (d i : Nat), n - i = d → i < n → done.getD i true = false → ∀ t, n ≤ t → t ∉ Region.ready md ops done := by
  intro d
  induction d using Nat.strongRecOn with
  | _ d ih =>
    intro i hd hi hun t ht hr
    obtain ⟨_, ot, hot, hall⟩ := mem_ready.1 hr
    have htl := (Array.getElem?_eq_some_iff.1 hot).1
    unfold headB at hs
    rw [Bool.and_eq_true] at hs
    by_cases hin : i = n - 1
    · have h1 := List.all_eq_true.1 hs.2 t (List.mem_range.2 htl)
      simp only [Bool.or_eq_true, decide_eq_true_eq] at h1
      rcases h1 with h1 | h1
      · omega
      · obtain ⟨o', ho', e, he, hb, hon⟩ := Region.waitsFor_spec h1
        have hoo : o' = ot := Option.some.inj (ho'.symm.trans hot)
        subst hoo
        have h2 := hall e he hb
        rw [hon, ← hin, getD_both hun] at h2
        cases h2
    · have h1 := List.all_eq_true.1 hs.1 i (List.mem_range.2 (by omega))
      obtain ⟨j, hj, hj2⟩ := List.any_eq_true.1 h1
      simp only [Bool.and_eq_true, decide_eq_true_eq] at hj2
      obtain ⟨oj, hoj, e, he, hb, hon⟩ := Region.waitsFor_spec hj2.2
      have hjn := List.mem_range.1 hj
      cases hl : done.getD j false with
      | true =>
        have h2 := inv.closed j oj hoj hl e he hb
        rw [hon, getD_both hun] at h2
        cases h2
      | false => exact ih (n - j) (by omega) j rfl hjn (getD_in (by rw [inv.size]; omega) hl) t ht hr

theorem headW_first {n i : Nat} {oi : Oper} {v : Value} {L : Array Bool → Act → Prop} (hi : ops[i]? = some oi) (hsel : ∀ (j : Nat) (o : Oper) cs b, ops[j]? = some o → o.op ≠ .select cs b)
    (hs : headB md ops n = true) (hn : n < ops.size) (hin : i < n) (hL : ∀ done a, L done a → ∀ j ∈ Region.ready md ops done, n ≤ j) (f : Nat) :
    ∀ (done : Array Bool) (a : Act), HeadInv md ops n done →
      (∀ j oj, ops[j]? = some oj → j ≠ i → done.getD j true = false → (∀ e ∈ oj.after, Region.binds md e = true → e.on ≠ i) → oi.apart ops oj = true) →
      i ∈ Region.ready md ops done → YieldsIn P ops C oi v a → quietHead P md ops C n L f (done.setIfInBounds i true) (a.put oi.dst v) → quietHead P md ops C n L (f + 1) done a := by
  induction f with
  | zero =>
    intro done a inv _ hr hy H
    have hopen := (mem_ready.1 hr).1
    refine ⟨fun e => (by rw [e] at hr; cases hr), fun j hj => ?_⟩
    have hjn : j < n := Nat.lt_of_not_le fun h => head_waits hs hn inv _ i rfl hin hopen j h hj
    by_cases e : j = i
    · subst e; exact ⟨hjn, hy.qOp hi H⟩
    · have := hL _ _ H j (ready_mono hj e)
      omega
  | succ f ih =>
    intro done a inv hfree hr hy H
    have hopen := (mem_ready.1 hr).1
    refine ⟨fun e => (by rw [e] at hr; cases hr), fun j hj => ?_⟩
    have hjn : j < n := Nat.lt_of_not_le fun h => head_waits hs hn inv _ i rfl hin hopen j h hj
    by_cases e : j = i
    · subst e; exact ⟨hjn, hy.qOp hi H⟩
    · refine ⟨hjn, ?_⟩
      obtain ⟨hjopen, oj, hoj, hall⟩ := mem_ready.1 hj
      have hnot : ∀ d ∈ oj.after, Region.binds md d = true → d.on ≠ i := fun d hd hb heq => by
        have := hall d hd hb
        rw [heq, getD_both hopen] at this
        cases this
      have h2 := qOp_put hoj (hfree j oj hoj e hjopen hnot) (fun cs b => hsel i oi cs b hi) (fun cs b => hsel j oj cs b hoj) hy (H.2 j (ready_mono hj e)).2
      refine qOp_mono (fun a' h3 => ih (done.setIfInBounds j true) a' (inv.set hj hjn) ?_ (ready_mono hr (Ne.symm e)) h3.1 ?_) h2
      · intro k ok hk hki hun hno
        refine hfree k ok hk hki ?_ hno
        by_cases hjk : j = k
        · subst hjk; exact hjopen
        · rwa [getD_set_ne true hjk] at hun
      · rw [Array.setIfInBounds_comm _ _ e]
        exact h3.2

/-- one by one: each may come up, and is free -/
def idxW (md : Region.Mode) (ops : Array Oper) (n : Nat) : List Nat → Array Bool → Bool
  | [], _ => true
  | k :: ks, done => (Region.ready md ops done).contains k && Region.free md ops done k && decide (k < n) && idxW md ops n ks (done.setIfInBounds k true)

theorem headW_lex {n : Nat} {K : Act → Prop} {D : Array Bool} (hsel : Region.noSelect ops = true) (hs : headB md ops n = true) (hn : n < ops.size) (hD : ∀ j ∈ Region.ready md ops D, n ≤ j) :
    ∀ (ks : List Nat) (done : Array Bool) (a : Act), HeadInv md ops n done → doneF ks done = D → idxW md ops n ks done = true → wpQuiet P ops C K (ks.filterMap fun k => ops[k]?) a →
    quietHead P md ops C n (fun done' a' => done' = D ∧ K a') ks.length done a := by
  intro ks
  induction ks with
  | nil => intro done a _ hF _ h; exact ⟨hF, h⟩
  | cons k ks ih =>
    intro done a inv hF hB h
    simp only [idxW, Bool.and_eq_true, decide_eq_true_eq] at hB
    obtain ⟨⟨⟨hr, hf⟩, hkn⟩, hB'⟩ := hB
    have hr' : k ∈ Region.ready md ops done := by simpa using hr
    obtain ⟨hopen, o, h0, _⟩ := mem_ready.1 hr'
    rw [List.filterMap_cons, h0] at h
    obtain ⟨v, hy, hK⟩ := yieldsIn_of_qOp h0 (show qOp P ops C k (wpQuiet P ops C K (ks.filterMap fun k => ops[k]?)) a by unfold qOp; simp only [h0]; exact h)
    refine headW_first h0 (Region.noSelect_spec hsel) hs hn hkn (fun d a' hL => by rw [hL.1]; exact hD) ks.length done a inv (Region.free_spec h0 hf) hr' hy ?_
    exact ih _ _ (inv.set hr' hkn) hF hB' hK

/-- loads, taken first -/
def wpLoads (P : Program) (ops : Array Oper) (S : World → Prop) (K : Act → Prop) : List Oper → Act → Prop
  | [], a => K a
  | o :: os, a => ∃ v, Region.wanted o (yielded ops a.tmps) = true ∧ (∀ w, S w → (execOp a.eval o).run P w = .ok (.value v) w) ∧ wpLoads P ops S K os (a.put o.dst v)

def postS (Q : Exit → Act → World → Prop) (S : World → Prop) (K : Act → World → Prop) : Exit → Act → World → Prop
  | .normal, a, w => S w ∧ K a w
  | e, a, w => Q e a w

/-- a row of operations, S behind each -/
def wpRow (P : Program) (ops : Array Oper) (Q : Exit → Act → World → Prop) (S : World → Prop) : List Oper → Act → World → Prop
  | [], a, w => Q .normal a w
  | o :: os, a, w => wpList P ops (postS Q S (wpRow P ops Q S os)) [o] a w

theorem letsOut_postS {K : Act → World → Prop} (h : LetsOut (postS Q S K)) : LetsOut Q := h

theorem wpOp_of_one {i : Nat} {o : Oper} {K : Act → World → Prop} {a : Act} {w : World} (hi : ops[i]? = some o) (h : wpList P ops (postS Q S K) [o] a w) : wpOp P ops Q i (fun a' w' => S w' ∧ K a' w') a w := by
  unfold wpOp
  simp only [hi]
  unfold wpList at h
  split
  · rename_i hw
    rw [if_pos hw] at h
    rcases h with h | ⟨h1, h2⟩
    · refine .inl ?_
      unfold Oper.wp at *
      generalize (execOp a.eval o).run P w = r at *
      cases r with
      | ok n w' =>
        cases n <;> simp only [Oper.upon] at h ⊢
        case value u => exact h
        case skip => exact h
        case defer d => exact h
        case enter f args =>
          refine Calls.mono h fun e w'' he => ?_
          cases e with
          | returned u => exact he
          | panicked c => exact he
          | outgrown => exact letsOut_postS he
        case row row args => exact Rows.mono h fun u w'' he => he
      | halt x w' =>
        cases x <;> simp only [Oper.upon] at h ⊢
        case panic u => exact h
    · exact .inr ⟨h1, letsOut_postS h2⟩
  · rename_i hw
    rw [if_neg hw] at h
    exact h

def rowB (md : Region.Mode) (ops : Array Oper) : List Nat → Array Bool → Bool
  | [], done => (Region.ready md ops done).isEmpty
  | k :: ks, done => decide (Region.ready md ops done = [k]) && rowB md ops ks (done.setIfInBounds k true)

theorem anyH_of_row : ∀ (ks : List Nat) (done : Array Bool) (a : Act) (w : World), rowB md ops ks done = true → wpRow P ops Q S (ks.filterMap fun k => ops[k]?) a w → wpAnyH P md ops Q S ks.length done a w
  | [], done, a, w, hB, h => ⟨by simpa [rowB] using hB, h⟩
  | k :: ks, done, a, w, hB, h => by
    simp only [rowB, Bool.and_eq_true, decide_eq_true_eq] at hB
    have hr : k ∈ Region.ready md ops done := by rw [hB.1]; simp
    obtain ⟨_, o, h0, _⟩ := mem_ready.1 hr
    rw [List.filterMap_cons, h0] at h
    refine wpAnyH_all hB.1 (by simp) fun i hi => ?_
    rw [List.mem_singleton] at hi
    subst hi
    exact wpOp_mono (fun a' w' h' => ⟨h'.1, anyH_of_row ks _ a' w' hB.2 h'.2⟩) (wpOp_of_one h0 h)

theorem anyH_of_loads {g : Nat} {D : Array Bool} (hsel : Region.noSelect ops = true) (hQ : ∀ c a (d : Option Tmp) v w, Q (.panic c) (a.put d v) w → Q (.panic c) a w) {w : World} (hS : S w) :
    ∀ (ks : List Nat) (done : Array Bool) (a : Act), idxW md ops ops.size ks done = true → doneF ks done = D → wpLoads P ops S (fun a' => wpAnyH P md ops Q S g D a' w) (ks.filterMap fun k => ops[k]?) a → wpAnyH P md ops Q S (ks.length + g) done a w
  | [], done, a, _, hF, h => by
    have hF' : done = D := hF
    rw [List.length_nil, Nat.zero_add, hF']; exact h
  | k :: ks, done, a, hB, hF, h => by
    simp only [idxW, Bool.and_eq_true, decide_eq_true_eq] at hB
    obtain ⟨⟨⟨hr, hf⟩, hkn⟩, hB'⟩ := hB
    have hr' : k ∈ Region.ready md ops done := by simpa using hr
    obtain ⟨_, o, h0, _⟩ := mem_ready.1 hr'
    rw [List.filterMap_cons, h0] at h
    obtain ⟨v, h1, h2, h3⟩ := h
    rw [List.length_cons, show ks.length + 1 + g = (ks.length + g) + 1 by omega]
    exact wpAnyH_take h0 hsel hf hr (fun c a w hh => hQ c a o.dst v w hh) (.inl ⟨h1, h2⟩) hS (anyH_of_loads hsel hQ hS ks _ _ hB' hF h3)

def splitB (ops : Array Oper) (n : Nat) (ls rs : List Nat) : Bool :=
  let D0 := Array.replicate ops.size false
  let D1 := doneF (List.range n) D0
  let D2 := doneF ls D1
  Region.noSelect ops && decide (n < ops.size) && headB .any ops n && decide (n + (ls.length + rs.length) = ops.size) && idxW .any ops n (List.range n) D0 && ((Region.ready .any ops D1).all fun j => decide (n ≤ j)) && idxW .any ops ops.size ls D1 && rowB .any ops rs D2

theorem range_take {α : Type} (l : List α) : ∀ n, ((List.range n).filterMap fun k => l[k]?) = l.take n
  | 0 => by simp
  | n + 1 => by
    rw [List.range_succ, List.filterMap_append, range_take l n, List.take_add_one]
    congr 1

theorem region_split {id : Nat} {a : Act} {w : World} {k : Nat} {l : List Oper} (n : Nat) (ls rs : List Nat) (hm : P.follows .mixedOrders = true) (hB : splitB l.toArray n ls rs = true)
    (hQ : ∀ c a (d : Option Tmp) v w, Q (.panic c) (a.put d v) w → Q (.panic c) a w)
    (h : wpQuiet P l.toArray (fun w' => ∃ m, w' = w.drewN m) (fun a' => ∀ m, wpLoads P l.toArray (Keeps w) (fun a'' => wpRow P l.toArray Q (Keeps w) (rs.filterMap fun k => l[k]?) a'' (w.drewN m)) (ls.filterMap fun k => l[k]?) a') (l.take n) a) :
    (Code.region id l.toArray true).wp P Q a (w.drewN k) := by
  simp only [splitB, Bool.and_eq_true, decide_eq_true_eq] at hB
  obtain ⟨⟨⟨⟨⟨⟨⟨hsel, hn⟩, hh⟩, hsum⟩, hidx⟩, hrdy⟩, hls⟩, hrs⟩ := hB
  have hl : (fun k : Nat => l[k]?) = (fun k : Nat => l.toArray[k]?) := by funext k; simp
  rw [← range_take, hl] at h
  have inv0 : HeadInv .any l.toArray n (Array.replicate l.toArray.size false) :=
    ⟨by simp, fun j oj _ hl => (by rw [getD_replicate_false] at hl; cases hl), fun t _ ht => getD_in (by simpa using ht) (getD_replicate_false _ _)⟩
  have hD : ∀ j ∈ Region.ready .any l.toArray (doneF (List.range n) (Array.replicate l.toArray.size false)), n ≤ j := fun j hj => by
    have := List.all_eq_true.1 hrdy j hj
    simpa using this
  have H := headW_lex (P := P) (C := fun w' => ∃ m, w' = w.drewN m) hsel hh hn hD (List.range n) _ a inv0 rfl hidx h
  refine wp_region_any hm ?_
  have R := any_of_quietHead (P := P) (ops := l.toArray) (md := .any) (Q := Q) (g := ls.length + rs.length) (fun done a' w' hw' hL => by
    obtain ⟨m, rfl⟩ := hw'
    obtain ⟨rfl, hK⟩ := hL
    refine wpAny_of_held _ _ _ _ (anyH_of_loads (S := Keeps w) hsel hQ (keeps_drewN w m) ls _ a' hls rfl ?_)
    have h2 := hK m
    have go : ∀ (os : List Oper) (a : Act) {K K' : Act → Prop}, (∀ a, K a → K' a) → wpLoads P l.toArray (Keeps w) K os a → wpLoads P l.toArray (Keeps w) K' os a := by
      intro os
      induction os with
      | nil => intro a K K' hk h; exact hk a h
      | cons o os ih => intro a K K' hk h; obtain ⟨v, h1, h2, h3⟩ := h; exact ⟨v, h1, h2, ih _ hk h3⟩
    exact go _ _ (fun a'' hr => anyH_of_row rs _ a'' _ hrs hr) h2) _ _ _ (w.drewN (k + 1)) ⟨k + 1, rfl⟩ H
  rw [List.length_range, hsum] at R
  exact R

end
end Go.Proofs.Ytleoedjjepkhgaa
