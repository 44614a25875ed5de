import Derived.Test.YtleoedjjepkhgaaTail
/- A region that draws its order: moves that nothing waits for till late (floats), reads and quiet calls in whatever order, and behind all of them what writes, in a row. -/
namespace Go.Proofs.Ytleoedjjepkhgaa

section
variable {P : Program} {ops : Array Oper} {md : Region.Mode} {C : World → Prop}

/-- each head operation that does not float is waited for, up to the first of the tail -/
def sinkF (md : Region.Mode) (ops : Array Oper) (F : List Nat) (n : Nat) : Bool :=
  (List.range n).all fun i => F.contains i || (List.range (n + 1)).any fun j => decide (i < j) && Region.waitsFor md ops j i

theorem float_waits {F : List Nat} {n : Nat} {done : Array Bool} (hs : sinkF md ops F n = true) (hc : Region.chainB md ops n = true) (_hn : n < ops.size) (inv : HeadInv md ops n done) (hF : ∀ i ∈ F, done.getD i true = true) :
    ∀ (d i : Nat), n - i = d → i < n → done.getD i true = false → ∀ t, n ≤ t → t ∉ Region.ready md ops done := by
  intro d
  induction d using Nat.strongRecOn with
  | _ d ih =>
    intro i hd hi hun t ht hr
    obtain ⟨_, ot, hot, hall⟩ := mem_ready.1 hr
    have htl := (Array.getElem?_eq_some_iff.1 hot).1
    by_cases htn : t = n
    · have h1 := List.all_eq_true.1 hs i (List.mem_range.2 hi)
      rw [Bool.or_eq_true] at h1
      rcases h1 with h1 | h1
      · have := hF i (by simpa using h1)
        rw [this] at hun; cases hun
      · obtain ⟨j, hj, hj2⟩ := List.any_eq_true.1 h1
        simp only [Bool.and_eq_true, decide_eq_true_eq] at hj2
        obtain ⟨oj, hoj, e, he, hb, hon⟩ := Region.waitsFor_spec hj2.2
        have hjn := List.mem_range.1 hj
        by_cases hjt : j = n
        · have hoo : oj = ot := by
            rw [hjt, ← htn] at hoj
            exact Option.some.inj (hoj.symm.trans hot)
          subst hoo
          have h2 := hall e he hb
          rw [hon, getD_both hun] at h2
          cases h2
        · cases hl : done.getD j false with
          | true =>
            have h2 := inv.closed j oj hoj hl e he hb
            rw [hon, getD_both hun] at h2
            cases h2
          | false =>
            exact ih (n - j) (by omega) j rfl (by omega) (getD_in (by rw [inv.size]; omega) hl) t ht hr
    · have h1 := List.all_eq_true.1 hc t (List.mem_range.2 htl)
      simp only [Bool.or_eq_true, decide_eq_true_eq] at h1
      rcases h1 with h1 | h1
      · omega
      · obtain ⟨o', ho', e, he, hb, hon⟩ := Region.waitsFor_spec h1
        have hoo : o' = ot := Option.some.inj (ho'.symm.trans hot)
        subst hoo
        have h2 := hall e he hb
        rw [hon, getD_both (inv.tail (t - 1) (by omega) (by omega))] at h2
        cases h2

theorem floatHead_first {F : List Nat} {n i : Nat} {oi : Oper} {v : Value} {L : Array Bool → Act → Prop} (hi : ops[i]? = some oi) (hsel : ∀ (j : Nat) (o : Oper) cs b, ops[j]? = some o → o.op ≠ .select cs b)
    (hs : sinkF md ops F n = true) (hc : Region.chainB md ops n = true) (hn : n < ops.size) (hin : i < n) (hL : ∀ done a, L done a → ∀ j ∈ Region.ready md ops done, n ≤ j) (f : Nat) :
    ∀ (done : Array Bool) (a : Act), HeadInv md ops n done → (∀ i ∈ F, done.getD i true = true) →
      (∀ j oj, ops[j]? = some oj → j ≠ i → done.getD j true = false → (∀ e ∈ oj.after, Region.binds md e = true → e.on ≠ i) → oi.apart ops oj = true) →
      i ∈ Region.ready md ops done → YieldsIn P ops C oi v a → quietHead P md ops C n L f (done.setIfInBounds i true) (a.put oi.dst v) → quietHead P md ops C n L (f + 1) done a := by
  induction f with
  | zero =>
    intro done a inv hF _ hr hy H
    have hopen := (mem_ready.1 hr).1
    refine ⟨fun e => (by rw [e] at hr; cases hr), fun j hj => ?_⟩
    have hjn : j < n := Nat.lt_of_not_le fun h => float_waits hs hc hn inv hF _ i rfl hin hopen j h hj
    by_cases e : j = i
    · subst e; exact ⟨hjn, hy.qOp hi H⟩
    · have := hL _ _ H j (ready_mono hj e)
      omega
  | succ f ih =>
    intro done a inv hF hfree hr hy H
    have hopen := (mem_ready.1 hr).1
    refine ⟨fun e => (by rw [e] at hr; cases hr), fun j hj => ?_⟩
    have hjn : j < n := Nat.lt_of_not_le fun h => float_waits hs hc hn inv hF _ i rfl hin hopen j h hj
    by_cases e : j = i
    · subst e; exact ⟨hjn, hy.qOp hi H⟩
    · refine ⟨hjn, ?_⟩
      obtain ⟨hjopen, oj, hoj, hall⟩ := mem_ready.1 hj
      have hnot : ∀ d ∈ oj.after, Region.binds md d = true → d.on ≠ i := fun d hd hb heq => by
        have := hall d hd hb
        rw [heq, getD_both hopen] at this
        cases this
      have h2 := qOp_put hoj (hfree j oj hoj e hjopen hnot) (fun cs b => hsel i oi cs b hi) (fun cs b => hsel j oj cs b hoj) hy (H.2 j (ready_mono hj e)).2
      refine qOp_mono (fun a' h3 => ih (done.setIfInBounds j true) a' (inv.set hj hjn) ?_ ?_ (ready_mono hr (Ne.symm e)) h3.1 ?_) h2
      · intro m hm
        have h4 := hF m hm
        by_cases hjm : j = m
        · subst hjm; rw [hjopen] at h4; cases h4
        · rw [getD_set_ne true hjm]; exact h4
      · intro k ok hk hki hun hno
        refine hfree k ok hk hki ?_ hno
        by_cases hjk : j = k
        · subst hjk; exact hjopen
        · rwa [getD_set_ne true hjk] at hun
      · rw [Array.setIfInBounds_comm _ _ e]
        exact h3.2

/-- the head's indices, one by one: each may come up, and is free -/
def idxHead (md : Region.Mode) (ops : Array Oper) (g n : Nat) : List Nat → Array Bool → Bool
  | [], done => Region.seqB md ops g n done
  | k :: ks, done => (Region.ready md ops done).contains k && Region.free md ops done k && decide (k < n) && idxHead md ops g n ks (done.setIfInBounds k true)

theorem floatHead_lex {F : List Nat} {n g : Nat} {K : Act → Prop} (hsel : Region.noSelect ops = true) (hs : sinkF md ops F n = true) (hc : Region.chainB md ops n = true) (hn : n < ops.size) :
    ∀ (ks : List Nat) (done : Array Bool) (a : Act), HeadInv md ops n done → (∀ i ∈ F, done.getD i true = true) → idxHead md ops g n ks done = true → wpQuiet P ops C K (ks.filterMap fun k => ops[k]?) a →
    quietHead P md ops C n (fun done' a' => Region.seqB md ops g n done' = true ∧ K a') ks.length done a := by
  intro ks
  induction ks with
  | nil => intro done a _ _ hB h; exact ⟨hB, h⟩
  | cons k ks ih =>
    intro done a inv hF hB h
    simp only [idxHead, Bool.and_eq_true, decide_eq_true_eq] at hB
    obtain ⟨⟨⟨hr, hf⟩, hkn⟩, hB'⟩ := hB
    have hr' : k ∈ Region.ready md ops done := by simpa using hr
    obtain ⟨hopen, o, h0, _⟩ := mem_ready.1 hr'
    rw [List.filterMap_cons, h0] at h
    obtain ⟨v, hy, hK⟩ := yieldsIn_of_qOp h0 (show qOp P ops C k (wpQuiet P ops C K (ks.filterMap fun k => ops[k]?)) a by unfold qOp; simp only [h0]; exact h)
    refine floatHead_first h0 (Region.noSelect_spec hsel) hs hc hn hkn (fun d a' hL => seqB_ready hL.1) ks.length done a inv hF (Region.free_spec h0 hf) hr' hy ?_
    refine ih _ _ (inv.set hr' hkn) ?_ hB' hK
    intro m hm
    have h4 := hF m hm
    by_cases hkm : k = m
    · subst hkm; rw [hopen] at h4; cases h4
    · rw [getD_set_ne true hkm]; exact h4

/-- a float: a move or an assign without a guard -/
def plainB (o : Oper) : Bool := o.guard.isNone && match o.op with | .move _ => true | _ => false

theorem plain_yields {o : Oper} (h : plainB o = true) (a : Act) : ∃ v, Yields P ops o v a ∧ ∀ K, o.quiet P a C K → (∃ w, C w) → K (a.put o.dst v) := by
  unfold plainB at h
  rw [Bool.and_eq_true] at h
  obtain ⟨hg, ho⟩ := h
  have hg' : o.guard = none := by simpa using hg
  cases hop : o.op <;> rw [hop] at ho <;> simp at ho
  rename_i x
  refine ⟨a.eval x, .inl ⟨by simp [Region.wanted, hg'], fun w => BigFrame.run_move x hop w⟩, ?_⟩
  rintro K ⟨v, h1, h2⟩ ⟨w, hw⟩
  have h3 := h1 w hw
  unfold Oper.quietAt at h3
  rw [BigFrame.run_move x hop w] at h3
  rw [h3.2]; exact h2

/-- the floats first, then the head -/
def floatsB (md : Region.Mode) (ops : Array Oper) (G : List Nat → Array Bool → Bool) : List Nat → Array Bool → Bool
  | [], done => G [] done
  | k :: ks, done => (Region.ready md ops done).contains k && Region.free md ops done k && ((ops[k]?).map plainB).getD false && floatsB md ops G ks (done.setIfInBounds k true)

theorem floats_any {K : Act → Prop} {Q : Exit → Act → World → Prop} {G : List Nat → Array Bool → Bool} {is : List Nat} {w : World} {g : Nat} (hsel : Region.noSelect ops = true) (hw : ∃ w, C w) (hQ : ∀ c a (d : Option Tmp) v w, Q (.panic c) (a.put d v) w → Q (.panic c) a w)
    (hG : ∀ done a, G [] done = true → wpQuiet P ops C K (is.filterMap fun k => ops[k]?) a → wpAny P md ops Q g done a w) :
    ∀ (F : List Nat) (done : Array Bool) (a : Act), floatsB md ops G F done = true → wpQuiet P ops C K ((F ++ is).filterMap fun k => ops[k]?) a → wpAny P md ops Q (F.length + g) done a w := by
  intro F
  induction F with
  | nil => intro done a hB h; rw [List.length_nil, Nat.zero_add]; exact hG done a hB h
  | cons k ks ih =>
    intro done a hB h
    simp only [floatsB, Bool.and_eq_true] at hB
    obtain ⟨⟨⟨hr, hf⟩, hp⟩, hB'⟩ := hB
    have hr' : k ∈ Region.ready md ops done := by simpa using hr
    obtain ⟨_, o, h0, _⟩ := mem_ready.1 hr'
    rw [h0] at hp
    obtain ⟨v, hy, hv⟩ := plain_yields (P := P) (ops := ops) (C := C) (show plainB o = true from hp) a
    rw [List.cons_append, List.filterMap_cons, h0] at h
    have hq : o.quiet P a C (wpQuiet P ops C K ((ks ++ is).filterMap fun k => ops[k]?)) := by
      have hgd : o.guard = none := by
        have : plainB o = true := hp
        unfold plainB at this
        rw [Bool.and_eq_true] at this
        simpa using this.1
      have h' : (if Region.wanted o (yielded ops a.tmps) then o.quiet P a C (wpQuiet P ops C K ((ks ++ is).filterMap fun k => ops[k]?)) else wpQuiet P ops C K ((ks ++ is).filterMap fun k => ops[k]?) (a.put o.dst undef)) := h
      rw [if_pos (by simp [Region.wanted, hgd])] at h'
      exact h'
    rw [List.length_cons, show ks.length + 1 + g = (ks.length + g) + 1 by omega]
    exact wpAny_take h0 hsel hf hr (fun c a w hh => hQ c a o.dst v w hh) hy (ih _ _ hB' (hv _ hq hw))

/-- done behind the floats -/
def doneF : List Nat → Array Bool → Array Bool
  | [], done => done
  | k :: ks, done => doneF ks (done.setIfInBounds k true)

def floatTailB (ops : Array Oper) (F is : List Nat) (n : Nat) : Bool :=
  Region.noSelect ops && decide (n < ops.size) && decide (F.length + is.length = n) && sinkF .any ops F n && Region.chainB .any ops n && F.all (fun k => decide (k < n)) &&
    floatsB .any ops (fun _ done => decide (done.size = ops.size) && F.all (fun k => done.getD k true) &&
      ((List.range ops.size).all fun j => !done.getD j false || ((ops[j]?).map fun o => o.after.all fun e => !Region.binds .any e || done.getD e.on false).getD true) &&
      ((List.range ops.size).all fun t => decide (t < n) || !done.getD t true) && idxHead .any ops (ops.size - n) n is done) F (Array.replicate ops.size false)

theorem region_float_tail_at {id : Nat} {Q : Exit → Act → World → Prop} {a : Act} {w : World} {k : Nat} {l : List Oper} (F is : List Nat) (n : Nat) (hm : P.follows .mixedOrders = true) (hB : floatTailB l.toArray F is n = true)
    (hQ : ∀ c a (d : Option Tmp) v w, Q (.panic c) (a.put d v) w → Q (.panic c) a w)
    (h : wpQuiet P l.toArray (fun w' => ∃ m, w' = w.drewN m) (fun a' => ∀ m, wpList P l.toArray Q (l.drop n) a' (w.drewN m)) ((F ++ is).filterMap fun k => l[k]?) a) : (Code.region id l.toArray true).wp P Q a (w.drewN k) := by
  simp only [floatTailB, Bool.and_eq_true, decide_eq_true_eq] at hB
  obtain ⟨⟨⟨⟨⟨⟨hsel, hn⟩, hFn⟩, hs⟩, hc⟩, _⟩, hfl⟩ := hB
  have hn' : n < l.length := by simpa using hn
  have hdl : (l.drop n).length = l.toArray.size - n := by simp
  have hl : (fun k : Nat => l.toArray[k]?) = (fun k : Nat => l[k]?) := by funext k; simp
  refine wp_region_any hm ?_
  have R := floats_any (P := P) (ops := l.toArray) (md := .any) (C := fun w' => ∃ m, w' = w.drewN m) (is := is) (w := w.drewN (k + 1)) (g := is.length + (l.toArray.size - n)) (Q := Q) (K := fun a' => ∀ m, wpList P l.toArray Q (l.drop n) a' (w.drewN m)) hsel ⟨w, 0, rfl⟩ hQ ?_ F _ a hfl (by rw [hl]; exact h)
  · rw [show F.length + (is.length + (l.toArray.size - n)) = l.toArray.size by omega] at R
    exact R
  · intro done a' hG hq
    simp only [Bool.and_eq_true, decide_eq_true_eq] at hG
    obtain ⟨⟨⟨⟨hsz, hF⟩, hcl⟩, htl⟩, hidx⟩ := hG
    have inv : HeadInv .any l.toArray n done := by
      refine ⟨hsz, ?_, ?_⟩
      · intro j oj hj hd e he hb
        have h1 := List.all_eq_true.1 hcl j (List.mem_range.2 (Array.getElem?_eq_some_iff.1 hj).1)
        rw [hd, hj] at h1
        simp only [Bool.not_true, Bool.false_or, Option.map_some, Option.getD_some] at h1
        have h2 := Array.all_eq_true_iff_forall_mem.1 h1 e he
        rw [hb] at h2
        simpa using h2
      · intro t ht ht2
        have h1 := List.all_eq_true.1 htl t (List.mem_range.2 ht2)
        simp only [Bool.or_eq_true, decide_eq_true_eq] at h1
        rcases h1 with h1 | h1
        · omega
        · simpa using h1
    have hF' : ∀ i ∈ F, done.getD i true = true := fun i hi => List.all_eq_true.1 hF i hi
    have H := floatHead_lex (P := P) (C := fun w' => ∃ m, w' = w.drewN m) (md := .any) (g := l.toArray.size - n) hsel hs hc hn is done a' inv hF' hidx hq
    exact any_of_quietHead (Q := Q) (g := l.toArray.size - n) (fun done a' w' hw' hL => by
      obtain ⟨m, rfl⟩ := hw'
      have := wpAny_of_seq (md := .any) (Q' := Q) (l.drop n) n done a' (w.drewN m) (fun j => by simp [List.getElem?_drop]) (by rw [hdl]; exact hL.1) (hL.2 m)
      rwa [hdl] at this) _ _ _ (w.drewN (k + 1)) ⟨k + 1, rfl⟩ H

theorem region_float_tail {id : Nat} {Q : Exit → Act → World → Prop} {a : Act} {w : World} {l : List Oper} (F is : List Nat) (n : Nat) (hm : P.follows .mixedOrders = true) (hB : floatTailB l.toArray F is n = true)
    (hQ : ∀ c a (d : Option Tmp) v w, Q (.panic c) (a.put d v) w → Q (.panic c) a w)
    (h : wpQuiet P l.toArray (fun w' => ∃ m, w' = w.drewN m) (fun a' => ∀ m, wpList P l.toArray Q (l.drop n) a' (w.drewN m)) ((F ++ is).filterMap fun k => l[k]?) a) : (Code.region id l.toArray true).wp P Q a w :=
  region_float_tail_at (k := 0) F is n hm hB hQ h
end
end Go.Proofs.Ytleoedjjepkhgaa
