import Derived.Test.YtleoedjjepkhgaaFloat
import Derived.Test.YtleoedjjepkhgaaMem
/- A region that draws its order, two threads: quiet operations (reads, pure steps, calls that only draw), and a chain of others (the writers). If each quiet operation yields one value in every world that the writers go through, one walk serves all orders: the quiet ones first, then the writers. -/
namespace Go.Proofs.Ytleoedjjepkhgaa

section
variable {P : Program} {ops : Array Oper} {md : Region.Mode} {CA CB : World → Prop} {Q : Exit → Act → World → Prop}

def dstAt (ops : Array Oper) (i : Nat) : Option Tmp := (ops[i]?).bind (·.dst)
def slotIn (a : Act) (d : Option Tmp) : Value := match d with | some t => a.tmps.getD t undef | none => undef

/-- the frame with what quiet operations yield laid in -/
def fillA (ops : Array Oper) (val : Nat → Value) (R : List Nat) (a : Act) : Act := R.foldl (fun a i => a.put (dstAt ops i) (val i)) a

/-- the writers, one behind another, each in whatever world the draws of quiet calls leave; the first s of them in worlds of CA, the others in worlds of CB -/
def wpC (P : Program) (ops : Array Oper) (CA CB : World → Prop) (Q : Exit → Act → World → Prop) : Nat → List Nat → Act → World → Prop
  | _, [], a, w => Q .normal a w
  | 0, t :: ts, a, w => CB w ∧ ∀ m, wpOp P ops Q t (wpC P ops CA CB Q 0 ts) a (w.drewN m)
  | s + 1, t :: ts, a, w => CA w ∧ ∀ m, wpOp P ops Q t (wpC P ops CA CB Q s ts) a (w.drewN m)

/-- what a quiet operation yields in the frame aF -/
def ValAt (P : Program) (ops : Array Oper) (C : World → Prop) (aF : Act) (i : Nat) (v : Value) : Prop :=
  ∃ o, ops[i]? = some o ∧ ((Region.wanted o (yielded ops aF.tmps) = true ∧ ∀ w, C w → o.quietAt P aF (fun w' => ∃ m, w' = w.drewN m) w v) ∨ (Region.wanted o (yielded ops aF.tmps) = false ∧ v = undef))

theorem wpC_drewN (hA : ∀ w m, CA w → CA (w.drewN m)) (hB : ∀ w m, CB w → CB (w.drewN m)) {s t : Nat} {ts : List Nat} {a : Act} {w : World} (h : wpC P ops CA CB Q s (t :: ts) a w) (m : Nat) : wpC P ops CA CB Q s (t :: ts) a (w.drewN m) := by
  cases s with
  | zero => exact ⟨hB w m h.1, fun k => by have := h.2 (m + k); rwa [← World.drewN_drewN] at this⟩
  | succ s => exact ⟨hA w m h.1, fun k => by have := h.2 (m + k); rwa [← World.drewN_drewN] at this⟩

theorem wpC_B (hAB : ∀ w, CA w → CB w) {s t : Nat} {ts : List Nat} {a : Act} {w : World} (h : wpC P ops CA CB Q s (t :: ts) a w) : CB w := by
  cases s with
  | zero => exact h.1
  | succ s => exact hAB w h.1

theorem wpC_step {s t : Nat} {ts : List Nat} {a : Act} {w : World} (h : wpC P ops CA CB Q s (t :: ts) a w) (m : Nat) : wpOp P ops Q t (wpC P ops CA CB Q (s - 1) ts) a (w.drewN m) := by
  cases s with
  | zero => exact h.2 m
  | succ s => exact h.2 m

/-- what stands behind an operation knows the frame's shape -/
theorem wpOp_shape {i : Nat} {o : Oper} (hi : ops[i]? = some o) {K K' : Act → World → Prop} {a : Act} {w : World} (h : wpOp P ops Q i K a w)
    (hk : ∀ (b : Act) (u : Value) (w' : World), b.tmps = a.tmps → K (b.put o.dst u) w' → K' (b.put o.dst u) w') : wpOp P ops Q i K' a w := by
  unfold wpOp at *
  simp only [hi] at *
  split
  · rename_i hw
    simp only [hw, if_true] at h
    rcases h with h | h
    · refine .inl ?_
      unfold Oper.wp at *
      generalize (execOp a.eval o).run P w = r at *
      cases r with
      | ok n w' =>
        cases n <;> simp only [Oper.upon] at h ⊢
        case value u => exact hk a u w' rfl h
        case skip => exact hk a _ w' rfl h
        case defer d => exact hk { a with defers := d :: a.defers } _ w' rfl h
        case enter f args => exact Calls.mono h (fun e w'' he => by cases e <;> first | exact hk a _ _ rfl he | exact he)
        case row row args => exact Rows.mono h (fun u w'' he => hk a _ _ rfl he)
      | halt x w' => cases x <;> simp only [Oper.upon] at h ⊢ <;> exact h
    · exact .inr h
  · rename_i hw
    simp only [hw] at h
    exact hk a _ w rfl h

def constOp (d : Option Tmp) (v : Value) : Oper := { dst := d, op := .move (.const v), type := 0, pos := "", after := #[], guard := none }

theorem const_yields (d : Option Tmp) (v : Value) (a : Act) : Yields P ops (constOp d v) v a :=
  .inl ⟨by simp [Region.wanted, constOp], fun w => by rw [BigFrame.run_move (.const v) rfl]; rfl⟩

/-- a value may be laid into a slot that the operation neither looks at nor writes, ahead of it or behind -/
theorem wpOp_lay {j : Nat} {oj : Oper} {d : Option Tmp} {v : Value} (hj : ops[j]? = some oj) (hsj : ∀ cs b, oj.op ≠ .select cs b) (h1 : ∀ t, d = some t → t ∉ oj.looksAt ops) (h2 : ∀ t, d = some t → oj.dst ≠ some t)
    (hQ : ∀ c a (d : Option Tmp) v w, Q (.panic c) (a.put d v) w → Q (.panic c) a w) {K : Act → World → Prop} {a : Act} {w : World} (h : wpOp P ops Q j K (a.put d v) w) :
    wpOp P ops Q j (fun a' w' => K (a'.put d v) w') a w := by
  have hap : (constOp d v).apart ops oj = true := by
    unfold Oper.apart
    have hl : (constOp d v).looksAt ops = [] := by simp [Oper.looksAt, constOp, Op.operands]
    rw [hl]
    cases hd : d with
    | none => simp [constOp]; split <;> rfl
    | some t =>
      have h3 := h1 t hd
      have h4 := h2 t hd
      simp [constOp, h3, h4]; split <;> rfl
  exact wpOp_mono (fun a' w' hh => hh.2) (wpOp_put (oi := constOp d v) hj hap (by intro cs b; simp [constOp]) hsj (fun c a w hh => hQ c a d v w hh) (const_yields d v a) h)

/-! ### the conditions -/

/-- edges lead back; no select; qs and ts are all; the chain; the last of the chain waits for all; slots apart -/
structure Two (md : Region.Mode) (ops : Array Oper) (qs ts : List Nat) : Prop where
  sel : ∀ (j : Nat) (o : Oper) cs b, ops[j]? = some o → o.op ≠ .select cs b
  back : ∀ j o, ops[j]? = some o → ∀ e ∈ o.after, Region.binds md e = true → e.on < j
  look : ∀ i ∈ qs, ∀ j o, ops[j]? = some o → ∀ t, dstAt ops i = some t → t ∈ o.looksAt ops → Region.waitsFor md ops j i = true
  apart : ∀ i ∈ qs, ∀ j, j ≠ i → ∀ t, dstAt ops i = some t → dstAt ops j ≠ some t
  wlook : ∀ i ∈ qs, ∀ j ∈ ts, ∀ o, ops[i]? = some o → ∀ t, dstAt ops j = some t → t ∈ o.looksAt ops → Region.waitsFor md ops j i = true
  last : ∀ i ∈ qs, ∀ pre t, ts = pre ++ [t] → Region.waitsFor md ops t i = true
  chain : ∀ pre x y post, ts = pre ++ x :: y :: post → Region.waitsFor md ops y x = true
  all : ∀ i, i < ops.size ↔ i ∈ qs ∨ i ∈ ts
  nodup : (qs ++ ts).Nodup

theorem fillA_put (val : Nat → Value) (d : Option Tmp) (u : Value) : ∀ (R : List Nat) (a : Act), (∀ i ∈ R, ∀ t, dstAt ops i = some t → d ≠ some t) → fillA ops val R (a.put d u) = (fillA ops val R a).put d u
  | [], _, _ => rfl
  | i :: R, a, h => by
    show fillA ops val R ((a.put d u).put (dstAt ops i) (val i)) = (fillA ops val R (a.put (dstAt ops i) (val i))).put d u
    rw [← fillA_put val d u R _ (fun j hj => h j (by simp [hj]))]
    rw [Act.put_comm a u (val i) (fun t ht ht2 => h i (by simp) t ht2 ht)]

theorem fillA_erase (val : Nat → Value) : ∀ (R : List Nat) (a : Act) (i : Nat), i ∈ R → R.Nodup → (∀ j ∈ R, j ≠ i → ∀ t, dstAt ops i = some t → dstAt ops j ≠ some t) → fillA ops val (R.erase i) (a.put (dstAt ops i) (val i)) = fillA ops val R a
  | k :: R, a, i, hi, hn, hd => by
    by_cases e : k = i
    · subst e; rw [List.erase_cons_head]; rfl
    · rw [List.erase_cons_tail (by simpa using e)]
      have hi' : i ∈ R := by
        rcases List.mem_cons.1 hi with h | h
        · exact absurd h.symm e
        · exact h
      have hn' := (List.nodup_cons.1 hn)
      show fillA ops val (R.erase i) ((a.put (dstAt ops i) (val i)).put (dstAt ops k) (val k)) = fillA ops val R (a.put (dstAt ops k) (val k))
      rw [Act.put_comm a (val i) (val k) (fun t ht ht2 => hd k (by simp) e t ht ht2)]
      exact fillA_erase val R _ i hi' hn'.2 (fun j hj hne => hd j (by simp [hj]) hne)

theorem exec_fill {o : Oper} (hs : ∀ cs b, o.op ≠ .select cs b) (val : Nat → Value) : ∀ (R : List Nat) (a : Act), (∀ i ∈ R, ∀ t, dstAt ops i = some t → t ∉ o.looksAt ops) →
    execOp (fillA ops val R a).eval o = execOp a.eval o ∧ Region.wanted o (yielded ops (fillA ops val R a).tmps) = Region.wanted o (yielded ops a.tmps)
  | [], _, _ => ⟨rfl, rfl⟩
  | i :: R, a, h => by
    have h1 := exec_fill hs val R (a.put (dstAt ops i) (val i)) (fun j hj => h j (by simp [hj]))
    have h2 := execOp_put (ops := ops) o hs a (dstAt ops i) (val i) (fun t ht => h i (by simp) t ht)
    have h3 := wanted_put (ops := ops) o a (dstAt ops i) (val i) (fun t ht => h i (by simp) t ht)
    exact ⟨h1.1.trans h2, h1.2.trans h3⟩

theorem wpOp_fill {j : Nat} {oj : Oper} (hj : ops[j]? = some oj) (hsj : ∀ cs b, oj.op ≠ .select cs b) (hQ : ∀ c a (d : Option Tmp) v w, Q (.panic c) (a.put d v) w → Q (.panic c) a w) (val : Nat → Value) :
    ∀ (R : List Nat), (∀ i ∈ R, ∀ t, dstAt ops i = some t → t ∉ oj.looksAt ops) → (∀ i ∈ R, ∀ t, dstAt ops i = some t → oj.dst ≠ some t) → ∀ (K : Act → World → Prop) (a : Act) (w : World), wpOp P ops Q j K (fillA ops val R a) w →
      wpOp P ops Q j (fun a' w' => K (fillA ops val R a') w') a w
  | [], _, _, _, _, _, h => h
  | i :: R, h1, h2, K, a, w, h => by
    have h3 : wpOp P ops Q j (fun a' w' => K (fillA ops val R a') w') (a.put (dstAt ops i) (val i)) w := wpOp_fill hj hsj hQ val R (fun k hk => h1 k (by simp [hk])) (fun k hk => h2 k (by simp [hk])) K _ w h
    exact wpOp_lay hj hsj (h1 i (by simp)) (h2 i (by simp)) hQ h3

theorem waits_undone {i j : Nat} {done : Array Bool} (h : Region.waitsFor md ops j i = true) (hun : done.getD i true = false) : j ∉ Region.ready md ops done := by
  intro hr
  obtain ⟨oj, hoj, e, he, hb, hon⟩ := Region.waitsFor_spec h
  obtain ⟨_, o', ho', hall⟩ := mem_ready.1 hr
  have : o' = oj := Option.some.inj (ho'.symm.trans hoj)
  subst this
  have h2 := hall e he hb
  rw [hon, getD_both hun] at h2
  cases h2

theorem least_undone : ∀ (n : Nat) (done : Array Bool), (∃ i, i < n ∧ done.getD i true = false) → ∃ i, i < n ∧ done.getD i true = false ∧ ∀ j, j < i → done.getD j true = true
  | 0, _, ⟨_, h, _⟩ => absurd h (Nat.not_lt_zero _)
  | n + 1, done, ⟨i, hi, hd⟩ => by
    by_cases h : ∃ i, i < n ∧ done.getD i true = false
    · obtain ⟨k, hk, h1, h2⟩ := least_undone n done h
      exact ⟨k, by omega, h1, h2⟩
    · have e : i = n := by
        by_cases e : i < n
        · exact absurd ⟨i, e, hd⟩ h
        · omega
      refine ⟨i, hi, hd, fun j hj => ?_⟩
      cases hx : done.getD j true with
      | true => rfl
      | false => exact absurd ⟨j, by omega, hx⟩ h

theorem inter_any {qs ts0 : List Nat} {val : Nat → Value} {aF : Act} {E : List Nat} (T : Two md ops qs ts0) (hA : ∀ w m, CA w → CA (w.drewN m)) (hB : ∀ w m, CB w → CB (w.drewN m)) (hAB : ∀ w, CA w → CB w) (hQ : ∀ c a (d : Option Tmp) v w, Q (.panic c) (a.put d v) w → Q (.panic c) a w)
    (hvA : ∀ i ∈ qs, ValAt P ops CA aF i (val i)) (hvB : ∀ i ∈ qs, i ∉ E → ValAt P ops CB aF i (val i)) : ∀ (fuel : Nat) (done : Array Bool) (R pre ts : List Nat) (s : Nat) (a : Act) (w : World), fuel = R.length + ts.length → ts0 = pre ++ ts → done.size = ops.size →
      (∀ i, i < ops.size → (done.getD i true = false ↔ i ∈ R ∨ i ∈ ts)) → R ⊆ qs → R.Nodup →
      (∀ i ∈ R, ∀ o, ops[i]? = some o → execOp (fillA ops val R a).eval o = execOp aF.eval o ∧ Region.wanted o (yielded ops (fillA ops val R a).tmps) = Region.wanted o (yielded ops aF.tmps)) →
      (∀ i ∈ qs, i ∉ R ∨ ts ≠ []) → (∀ i ∈ E, i ∈ R → ∃ t ∈ ts.take s, Region.waitsFor md ops t i = true) → wpC P ops CA CB Q s ts (fillA ops val R a) w → wpAny P md ops Q fuel done a w := by
  intro fuel
  induction fuel with
  | zero =>
    intro done R pre ts s a w hf hts hsz hd hR hn hI hl hE h
    have hR0 : R = [] := List.length_eq_zero_iff.1 (by omega)
    have ht0 : ts = [] := List.length_eq_zero_iff.1 (by omega)
    subst hR0 ht0
    refine ⟨?_, by cases s <;> exact h⟩
    rw [List.eq_nil_iff_forall_not_mem]
    intro i hi
    obtain ⟨hun, o, ho, _⟩ := mem_ready.1 hi
    have := (hd i (Array.getElem?_eq_some_iff.1 ho).1).1 hun
    simp at this
  | succ fuel ih =>
    intro done R pre ts s a w hf hts hsz hd hR hn hI hl hE h
    have hmem : ∀ i, i ∈ R ∨ i ∈ ts → i < ops.size := fun i hi => (T.all i).2 (hi.elim (fun h => .inl (hR h)) (fun h => .inr (by rw [hts]; simp [h])))
    refine ⟨fun hr => ?_, fun i hi => ?_⟩
    · exfalso
      have hex : ∃ i, i < ops.size ∧ done.getD i true = false := by
        have : ∃ i, i ∈ R ∨ i ∈ ts := by
          cases R with
          | cons x R => exact ⟨x, .inl (by simp)⟩
          | nil =>
            cases ts with
            | cons x ts => exact ⟨x, .inr (by simp)⟩
            | nil => simp at hf
        obtain ⟨i, hi⟩ := this
        exact ⟨i, hmem i hi, (hd i (hmem i hi)).2 hi⟩
      obtain ⟨i, hi, hun, hlow⟩ := least_undone _ _ hex
      have hmemr : i ∈ Region.ready md ops done := by
        refine mem_ready.2 ⟨hun, ops[i], Array.getElem?_eq_getElem hi, fun e he hb => ?_⟩
        have h1 := T.back i ops[i] (Array.getElem?_eq_getElem hi) e he hb
        have h2 := hlow e.on h1
        have h3 : e.on < done.size := by omega
        simp [h3] at h2 ⊢
        exact h2
      rw [hr] at hmemr
      cases hmemr
    · obtain ⟨hun, o, ho, hall⟩ := mem_ready.1 hi
      have hil := (Array.getElem?_eq_some_iff.1 ho).1
      have hd' : ∀ j, j < ops.size → ((done.setIfInBounds i true).getD j true = false ↔ (done.getD j true = false ∧ j ≠ i)) := by
        intro j hj
        by_cases e : i = j
        · subst e
          constructor
          · intro h1; simp [Array.getElem?_setIfInBounds_self_of_lt (show i < done.size by omega)] at h1
          · intro h1; exact absurd rfl h1.2
        · rw [getD_set_ne true e]
          exact ⟨fun h1 => ⟨h1, fun h2 => e h2.symm⟩, fun h1 => h1.1⟩
      have hdst : dstAt ops i = o.dst := by unfold dstAt; rw [ho]; rfl
      have hmine := (hd i hil).1 hun
      by_cases hiR : i ∈ R
      · -- a quiet one
        have hts' : ts ≠ [] := (hl i (hR hiR)).elim (fun h => absurd hiR h) id
        obtain ⟨t, ts', rfl⟩ : ∃ t ts', ts = t :: ts' := by
          cases ts with
          | nil => exact absurd rfl hts'
          | cons t ts' => exact ⟨t, ts', rfl⟩
        have hcls : ∃ C : World → Prop, C w ∧ (∀ w m, C w → C (w.drewN m)) ∧ ValAt P ops C aF i (val i) := by
          by_cases hiE : i ∈ E
          · obtain ⟨t', ht', _⟩ := hE i hiE hiR
            cases s with
            | zero => simp at ht'
            | succ s => exact ⟨CA, h.1, hA, hvA i (hR hiR)⟩
          · exact ⟨CB, wpC_B hAB h, hB, hvB i (hR hiR) hiE⟩
        obtain ⟨Cx, hCw, hC, o', ho', hval⟩ := hcls
        have e1 : o' = o := Option.some.inj (ho'.symm.trans ho)
        subst e1
        have hlook : ∀ j ∈ R, ∀ t, dstAt ops j = some t → t ∉ o'.looksAt ops := fun j hj t ht hin => waits_undone (T.look j (hR hj) i o' ho t ht hin) ((hd j (hmem j (.inl hj))).2 (.inl hj)) hi
        have hsame := exec_fill (ops := ops) (fun cs b => T.sel i o' cs b ho) val R a hlook
        have hI' := hI i hiR o' ho
        have hex : execOp a.eval o' = execOp aF.eval o' := hsame.1.symm.trans hI'.1
        have hwa : Region.wanted o' (yielded ops a.tmps) = Region.wanted o' (yielded ops aF.tmps) := hsame.2.symm.trans hI'.2
        have next : ∀ m, wpAny P md ops Q fuel (done.setIfInBounds i true) (a.put o'.dst (val i)) (w.drewN m) := by
          intro m
          have hfe : fillA ops val (R.erase i) (a.put o'.dst (val i)) = fillA ops val R a := by
            rw [← hdst]
            exact fillA_erase val R a i hiR hn (fun j hj hne t ht => T.apart i (hR hiR) j hne t ht)
          refine ih _ (R.erase i) pre (t :: ts') s _ _ (by rw [List.length_erase_of_mem hiR]; have := List.length_pos_of_mem hiR; omega) hts (by simp [hsz]) ?_ (fun j hj => hR (List.mem_of_mem_erase hj)) (hn.erase i) ?_ (fun j _ => .inr (by simp)) (fun j hjE hjR => hE j hjE (List.mem_of_mem_erase hjR)) ?_
          · intro j hj
            rw [hd' j hj, hd j hj, List.Nodup.mem_erase_iff hn]
            constructor
            · rintro ⟨h1 | h1, h2⟩
              · exact .inl ⟨h2, h1⟩
              · exact .inr h1
            · rintro (⟨h1, h2⟩ | h1)
              · exact ⟨.inl h2, h1⟩
              · refine ⟨.inr h1, fun e => ?_⟩
                subst e
                have := (List.nodup_append.1 T.nodup).2.2 j (hR hiR) j (by rw [hts]; simp only [List.mem_append]; exact .inr h1)
                exact this rfl
          · intro j hj o2 ho2
            rw [hfe]
            exact hI j (List.mem_of_mem_erase hj) o2 ho2
          · rw [hfe]
            exact wpC_drewN hA hB h m
        unfold wpOp
        simp only [ho]
        rw [hwa]
        rcases hval with ⟨hw, hq⟩ | ⟨hw, hu⟩
        · rw [if_pos hw]
          refine .inl (Oper.wp_of_quiet (C := fun w' => ∃ m, w' = w.drewN m) (K := fun a' => a' = a.put o'.dst (val i)) ⟨0, rfl⟩ ?_ ⟨val i, ?_, rfl⟩)
          · rintro a' w' ⟨m, rfl⟩ rfl
            exact next m
          · rintro w' ⟨m, rfl⟩
            have h3 := hq (w.drewN m) (hC w m hCw)
            unfold Oper.quietAt at h3 ⊢
            rw [hex]
            generalize (execOp aF.eval o').run P (w.drewN m) = r at h3
            cases r with
            | ok nx w2 =>
              cases nx <;> simp only [Oper.quietUpon] at h3 ⊢
              case value u => exact h3
              case skip => exact h3
              case enter f args =>
                refine ⟨h3.1, h3.2.mono fun e w3 he => ⟨he.1, ?_⟩⟩
                obtain ⟨k, hk⟩ := he.2
                exact ⟨m + k, by rw [hk, World.drewN_drewN]⟩
            | halt x w2 => simp only [Oper.quietUpon] at h3
        · rw [if_neg (by rw [hw]; simp)]
          have := next 0
          rw [hu] at this
          exact this
      · -- a writer: the first one
        have hit : i ∈ ts := hmine.resolve_left hiR
        obtain ⟨t, ts', rfl⟩ : ∃ t ts', ts = t :: ts' := by
          cases ts with
          | nil => cases hit
          | cons t ts' => exact ⟨t, ts', rfl⟩
        have hitt : i = t := by
          rcases List.mem_cons.1 hit with e | e
          · exact e
          · exfalso
            obtain ⟨p1, p2, hp⟩ := List.append_of_mem e
            rcases List.eq_nil_or_concat p1 with rfl | ⟨p3, x, rfl⟩
            · have hw := T.chain pre t i p2 (by rw [hts, hp]; simp)
              exact waits_undone hw ((hd t (hmem t (.inr (by simp)))).2 (.inr (by simp))) hi
            · have hw := T.chain (pre ++ t :: p3) x i p2 (by rw [hts, hp]; simp)
              have hx : x ∈ ts' := by rw [hp]; simp
              exact waits_undone hw ((hd x (hmem x (.inr (by simp [hx])))).2 (.inr (by simp [hx]))) hi
        subst hitt
        have hlook : ∀ j ∈ R, ∀ t, dstAt ops j = some t → t ∉ o.looksAt ops := fun j hj t ht hin => waits_undone (T.look j (hR hj) i o ho t ht hin) ((hd j (hmem j (.inl hj))).2 (.inl hj)) hi
        have hdd : ∀ j ∈ R, ∀ t, dstAt ops j = some t → o.dst ≠ some t := fun j hj t ht => by
          rw [← hdst]
          exact T.apart j (hR hj) i (fun e => hiR (e ▸ hj)) t ht
        have h0 := wpC_step h 0
        have hts2 : ts0 = (pre ++ [i]) ++ ts' := by rw [hts]; simp
        have hsh : wpOp P ops Q i (fun a' w' => wpC P ops CA CB Q (s - 1) ts' a' w' ∧ ∀ j ∈ R, ∀ o2, ops[j]? = some o2 → execOp a'.eval o2 = execOp aF.eval o2 ∧ Region.wanted o2 (yielded ops a'.tmps) = Region.wanted o2 (yielded ops aF.tmps)) (fillA ops val R a) w := by
          refine wpOp_shape ho h0 fun b u w' hb hk => ⟨hk, fun j hj o2 ho2 => ?_⟩
          have hnl : ∀ t, o.dst = some t → t ∉ o2.looksAt ops := fun t ht hin =>
            waits_undone (T.wlook j (hR hj) i (by rw [hts]; simp) o2 ho2 t (by rw [hdst]; exact ht) hin) ((hd j (hmem j (.inl hj))).2 (.inl hj)) hi
          have hI' := hI j hj o2 ho2
          have q1 := execOp_put (ops := ops) o2 (fun cs b => T.sel j o2 cs b ho2) b o.dst u hnl
          have q2 := wanted_put (ops := ops) o2 b o.dst u hnl
          have hbe : b.eval = (fillA ops val R a).eval := by
            funext x
            cases x <;> simp [Act.eval, hb]
          rw [q1, q2, hbe, hb]
          exact hI'
        have hfin := wpOp_fill ho (fun cs b => T.sel i o cs b ho) hQ val R hlook hdd _ a w hsh
        refine wpOp_mono (fun a' w' hh => ?_) hfin
        refine ih _ R (pre ++ [i]) ts' (s - 1) a' w' (by simp at hf; omega) hts2 (by simp [hsz]) ?_ hR hn hh.2 ?_ ?_ hh.1
        · intro j hj
          rw [hd' j hj, hd j hj]
          constructor
          · rintro ⟨h1 | h1, h2⟩
            · exact .inl h1
            · rcases List.mem_cons.1 h1 with e | e
              · exact absurd e h2
              · exact .inr e
          · rintro (h1 | h1)
            · exact ⟨.inl h1, fun e => hiR (e ▸ h1)⟩
            · refine ⟨.inr (by simp [h1]), fun e => ?_⟩
              subst e
              have hnd := (List.nodup_append.1 T.nodup).2.1
              rw [hts] at hnd
              have := (List.nodup_append.1 hnd).2.1
              exact (List.nodup_cons.1 this).1 h1
        · intro j hj
          by_cases hjR : j ∈ R
          · right
            rintro e0
            have hts2' : ts0 = pre ++ [i] := by rw [hts, e0]
            exact waits_undone (T.last j hj pre i hts2') ((hd j (hmem j (.inl hjR))).2 (.inl hjR)) hi
          · exact .inl hjR
        · intro j hjE hjR
          obtain ⟨t', ht', hw⟩ := hE j hjE hjR
          cases s with
          | zero => simp at ht'
          | succ s =>
            rw [List.take_succ_cons] at ht'
            rcases List.mem_cons.1 ht' with e | ht'
            · subst e
              exact absurd hi (waits_undone hw ((hd j (hmem j (.inl hjR))).2 (.inl hjR)))
            · exact ⟨t', ht', hw⟩

/-! ### the walk of the quiet ones gives the full frame -/

theorem slot_put_ne {a : Act} {d : Option Tmp} {t : Tmp} {u : Value} (h : d ≠ some t) : slotIn (a.put d u) (some t) = slotIn a (some t) := by
  cases d with
  | none => rfl
  | some e =>
    have hne : e ≠ t := fun h2 => h (by rw [h2])
    unfold slotIn Act.put
    simp [hne]

theorem slot_put_eq {a : Act} {t : Tmp} {u : Value} (h : t < a.tmps.size) : slotIn (a.put (some t) u) (some t) = u := by
  unfold slotIn Act.put
  simp [h]

theorem size_put (a : Act) (d : Option Tmp) (u : Value) : (a.put d u).tmps.size = a.tmps.size := by
  cases d <;> simp [Act.put]

theorem slot_fill (val : Nat → Value) {t : Tmp} : ∀ (R : List Nat) (a : Act), (∀ i ∈ R, dstAt ops i ≠ some t) → slotIn (fillA ops val R a) (some t) = slotIn a (some t)
  | [], _, _ => rfl
  | i :: R, a, h => (slot_fill val R _ (fun j hj => h j (by simp [hj]))).trans (slot_put_ne (h i (by simp)))

theorem quiet_vals {C : World → Prop} {aF : Act} (hsel : ∀ (j : Nat) (o : Oper) cs b, ops[j]? = some o → o.op ≠ .select cs b) : ∀ (ks : List Nat) (a : Act),
    ks.Pairwise (fun i j => ∀ o, ops[i]? = some o → ∀ t, dstAt ops j = some t → t ∉ o.looksAt ops) → (∀ i ∈ ks, ∀ o, ops[i]? = some o → ∀ t, dstAt ops i = some t → t ∉ o.looksAt ops) →
    ks.Pairwise (fun i j => ∀ t, dstAt ops i = some t → dstAt ops j ≠ some t) → (∀ i ∈ ks, ∃ t, dstAt ops i = some t ∧ t < a.tmps.size) → wpQuiet P ops C (fun a' => a' = aF) (ks.filterMap fun k => ops[k]?) a →
    aF = fillA ops (fun i => slotIn aF (dstAt ops i)) ks a ∧ ∀ i ∈ ks, ∃ o, ops[i]? = some o ∧ YieldsIn P ops C o (slotIn aF (dstAt ops i)) aF
  | [], a, _, _, _, _, h => ⟨h.symm, by simp⟩
  | k :: ks, a, h1, h2, h3, h4, h => by
    obtain ⟨t, hdt, htl⟩ := h4 k (by simp)
    obtain ⟨o, ho⟩ : ∃ o, ops[k]? = some o := by
      cases hk : ops[k]? with
      | some o => exact ⟨o, rfl⟩
      | none => unfold dstAt at hdt; rw [hk] at hdt; cases hdt
    have hod : o.dst = some t := by have := hdt; unfold dstAt at this; rw [ho] at this; exact this
    rw [List.filterMap_cons, ho] at h
    obtain ⟨v, hy, hK⟩ := yieldsIn_of_qOp ho (show qOp P ops C k (wpQuiet P ops C (fun a' => a' = aF) (ks.filterMap fun k => ops[k]?)) a by unfold qOp; simp only [ho]; exact h)
    have p1 := List.pairwise_cons.1 h1
    have p3 := List.pairwise_cons.1 h3
    obtain ⟨e1, e2⟩ := quiet_vals hsel ks (a.put o.dst v) p1.2 (fun i hi => h2 i (by simp [hi])) p3.2 (fun i hi => by
      obtain ⟨u, hu, hul⟩ := h4 i (by simp [hi])
      exact ⟨u, hu, by rw [size_put]; exact hul⟩) hK
    have hv : slotIn aF (dstAt ops k) = v := by
      rw [hdt, e1, slot_fill _ ks _ (fun i hi => p3.1 i hi t hdt), hod]
      exact slot_put_eq htl
    refine ⟨?_, fun i hi => ?_⟩
    · show aF = fillA ops _ ks (a.put (dstAt ops k) (slotIn aF (dstAt ops k)))
      rw [hv, hdt, ← hod]
      exact e1
    · rcases List.mem_cons.1 hi with rfl | hi
      · refine ⟨o, ho, ?_⟩
        rw [hv]
        have hf := exec_fill (ops := ops) (fun cs b => hsel i o cs b ho) (fun i => slotIn aF (dstAt ops i)) ks (a.put o.dst v) (fun j hj t' ht' => p1.1 j hj o ho t' ht')
        rw [← e1] at hf
        have hown : ∀ u, o.dst = some u → u ∉ o.looksAt ops := fun u hu => h2 i (by simp) o ho u (by unfold dstAt; rw [ho]; exact hu)
        exact hy.of_same (hf.1.trans (execOp_put (ops := ops) o (fun cs b => hsel i o cs b ho) a o.dst v hown)) (hf.2.trans (wanted_put (ops := ops) o a o.dst v hown))
      · exact e2 i hi

/-! ### the conditions as a Bool -/

def lookB (md : Region.Mode) (ops : Array Oper) (i j w v : Nat) : Bool :=
  match dstAt ops i, ops[j]? with
  | some t, some o => !(o.looksAt ops).contains t || Region.waitsFor md ops w v
  | _, _ => true

def twoB (md : Region.Mode) (ops : Array Oper) (qs ts : List Nat) : Bool :=
  Region.noSelect ops &&
  ((List.range ops.size).all fun j => match ops[j]? with | some o => o.after.all (fun e => !Region.binds md e || decide (e.on < j)) | none => true) &&
  (qs.all fun i => (List.range ops.size).all fun j => lookB md ops i j j i) &&
  (qs.all fun i => (List.range ops.size).all fun j => j == i || (match dstAt ops i with | some t => dstAt ops j != some t | none => false)) &&
  (qs.all fun i => ts.all fun j => lookB md ops j i j i) &&
  (match ts.getLast? with | some t => qs.all fun i => Region.waitsFor md ops t i | none => false) &&
  ((List.range (ts.length - 1)).all fun k => Region.waitsFor md ops (ts.getD (k + 1) 0) (ts.getD k 0)) &&
  ((qs ++ ts).all fun i => decide (i < ops.size)) && ((List.range ops.size).all fun i => (qs ++ ts).contains i) && decide (qs ++ ts).Nodup && decide (qs.Pairwise (· < ·))

theorem lookB_spec {i j x v : Nat} (h : lookB md ops i j x v = true) {o : Oper} (ho : ops[j]? = some o) {t : Tmp} (ht : dstAt ops i = some t) (hin : t ∈ o.looksAt ops) : Region.waitsFor md ops x v = true := by
  unfold lookB at h
  rw [ht, ho] at h
  simp only [Bool.or_eq_true, Bool.not_eq_true'] at h
  rcases h with h | h
  · have : (o.looksAt ops).contains t = true := by simpa using hin
    rw [this] at h; cases h
  · exact h

theorem two_of {qs ts : List Nat} (h : twoB md ops qs ts = true) : Two md ops qs ts ∧ qs.Pairwise (· < ·) ∧ ts ≠ [] ∧ ∀ i ∈ qs, ∃ t, dstAt ops i = some t := by
  simp only [twoB, Bool.and_eq_true, decide_eq_true_eq] at h
  obtain ⟨⟨⟨⟨⟨⟨⟨⟨⟨⟨hsel, hback⟩, hlook⟩, hap⟩, hwl⟩, hlast⟩, hch⟩, hlt⟩, hall⟩, hnd⟩, hpw⟩ := h
  have hin : ∀ {j : Nat} {o : Oper}, ops[j]? = some o → j ∈ List.range ops.size := fun hj => List.mem_range.2 (Array.getElem?_eq_some_iff.1 hj).1
  have hqlt : ∀ i ∈ qs ++ ts, i < ops.size := fun i hi => by simpa using List.all_eq_true.1 hlt i hi
  have hdst : ∀ i ∈ qs, ∃ t, dstAt ops i = some t := by
    intro i hi
    have h1 := List.all_eq_true.1 hap i hi
    -- some other operation stands in the region: the chain's last
    cases hd : dstAt ops i with
    | some t => exact ⟨t, rfl⟩
    | none =>
      exfalso
      rw [hd] at h1
      cases hg : ts.getLast? with
      | none => rw [hg] at hlast; cases hlast
      | some t =>
        have htm : t ∈ ts := List.mem_of_getLast? hg
        have h2 := List.all_eq_true.1 h1 t (List.mem_range.2 (hqlt t (by simp [htm])))
        simp only [Bool.or_false, beq_iff_eq] at h2
        subst h2
        exact (List.nodup_append.1 hnd).2.2 t hi t htm rfl
  refine ⟨⟨Region.noSelect_spec hsel, ?_, ?_, ?_, ?_, ?_, ?_, ?_, hnd⟩, hpw, ?_, hdst⟩
  · intro j o hj e he hb
    have h1 := List.all_eq_true.1 hback j (hin hj)
    rw [hj] at h1
    have h2 := Array.all_eq_true_iff_forall_mem.1 h1 e he
    rw [hb] at h2
    simpa using h2
  · intro i hi j o hj t ht hin2
    exact lookB_spec (List.all_eq_true.1 (List.all_eq_true.1 hlook i hi) j (hin hj)) hj ht hin2
  · intro i hi j hne t ht
    by_cases hj : j < ops.size
    · have h1 := List.all_eq_true.1 (List.all_eq_true.1 hap i hi) j (List.mem_range.2 hj)
      rw [ht] at h1
      simp only [Bool.or_eq_true, beq_iff_eq, hne, false_or] at h1
      simpa using h1
    · unfold dstAt
      rw [Array.getElem?_eq_none (by omega)]
      simp
  · intro i hi j hj o ho t ht hin2
    exact lookB_spec (List.all_eq_true.1 (List.all_eq_true.1 hwl i hi) j hj) ho ht hin2
  · intro i hi pre t hts
    rw [hts, List.getLast?_concat] at hlast
    exact List.all_eq_true.1 hlast i hi
  · intro pre x y post hts
    have h1 := List.all_eq_true.1 hch pre.length (List.mem_range.2 (by rw [hts]; simp))
    rw [hts] at h1
    have e1 : (pre ++ x :: y :: post).getD (pre.length + 1) 0 = y := by
      rw [List.getD_eq_getElem?_getD, List.getElem?_append_right (by omega)]; simp
    have e2 : (pre ++ x :: y :: post).getD pre.length 0 = x := by
      rw [List.getD_eq_getElem?_getD, List.getElem?_append_right (by omega)]; simp
    rw [e1, e2] at h1
    exact h1
  · intro i
    constructor
    · intro hi
      have := List.all_eq_true.1 hall i (List.mem_range.2 hi)
      simpa using this
    · intro hi
      exact hqlt i (by simpa using hi)
  · rintro rfl
    simp at hlast

theorem waits_lt {qs ts : List Nat} (T : Two md ops qs ts) {i j : Nat} (h : Region.waitsFor md ops j i = true) : i < j := by
  obtain ⟨oj, hoj, e, he, hb, hon⟩ := Region.waitsFor_spec h
  have := T.back j oj hoj e he hb
  omega

def boundsB (ops : Array Oper) (qs : List Nat) (n : Nat) : Bool := qs.all fun i => match dstAt ops i with | some t => decide (t < n) | none => false

def earlyB (md : Region.Mode) (ops : Array Oper) (E ts : List Nat) (s : Nat) : Bool := E.all fun i => (ts.take s).any fun t => Region.waitsFor md ops t i

theorem vals_at {qs0 qs ts : List Nat} {n : Nat} {C : World → Prop} {a aF : Act} (T : Two md ops qs0 ts) (hsub : ∀ i ∈ qs, i ∈ qs0) (hpw : qs.Pairwise (· < ·)) (hn : a.tmps.size = n) (hsz : boundsB ops qs n = true) (hx : ∃ x, C x)
    (hq : ∀ x, C x → wpQuiet P ops (fun w' => ∃ m, w' = x.drewN m) (fun a' => a' = aF) (qs.filterMap fun k => ops[k]?) a) :
    aF = fillA ops (fun i => slotIn aF (dstAt ops i)) qs a ∧ ∀ i ∈ qs, ValAt P ops C aF i (slotIn aF (dstAt ops i)) := by
  have hb : ∀ i ∈ qs, ∃ t, dstAt ops i = some t ∧ t < a.tmps.size := by
    intro i hi
    have h1 := List.all_eq_true.1 hsz i hi
    cases hd : dstAt ops i with
    | none => rw [hd] at h1; cases h1
    | some t =>
      rw [hd] at h1
      exact ⟨t, rfl, by rw [hn]; simpa using h1⟩
  have hvals := fun (x : World) (hx' : C x) => quiet_vals (P := P) (ops := ops) (C := fun w' => ∃ m, w' = x.drewN m) (aF := aF) T.sel qs a
    (hpw.imp_of_mem fun {i j} hi hj hij o ho t ht hin => by have := waits_lt T (T.look j (hsub j hj) i o ho t ht hin); omega)
    (fun i hi o ho t ht hin => by have := waits_lt T (T.look i (hsub i hi) i o ho t ht hin); omega)
    (hpw.imp_of_mem fun {i j} hi hj hij t ht => T.apart i (hsub i hi) j (by omega) t ht) hb (hq x hx')
  obtain ⟨x0, hx0⟩ := hx
  refine ⟨(hvals x0 hx0).1, fun i hi => ?_⟩
  obtain ⟨o, ho, hy0⟩ := (hvals x0 hx0).2 i hi
  refine ⟨o, ho, ?_⟩
  rcases hy0 with ⟨hw, _⟩ | ⟨hw, hu⟩
  · refine .inl ⟨hw, fun x hx' => ?_⟩
    obtain ⟨o', ho', hy⟩ := (hvals x hx').2 i hi
    have : o' = o := Option.some.inj (ho'.symm.trans ho)
    subst this
    rcases hy with ⟨_, hq'⟩ | ⟨hw', _⟩
    · exact hq' x ⟨0, rfl⟩
    · rw [hw] at hw'; cases hw'
  · exact .inr ⟨hw, hu⟩

/-- THE LAW: E: quiet operations (calls) that are done before the s-th writer is; their values are laid into the frame aE ahead of the walk of the others in the worlds of CB. -/
theorem region_two_at {id : Nat} {a : Act} {w : World} {k : Nat} {l : List Oper} (qs ts E : List Nat) (s n : Nat) (CA CB : World → Prop) (aE aF : Act) (hm : P.follows .mixedOrders = true) (hB : twoB .any l.toArray qs ts = true) (hE : earlyB .any l.toArray E ts s = true)
    (hn : a.tmps.size = n) (hnE : aE.tmps.size = n) (hsz : boundsB l.toArray qs n = true) (hA' : ∀ w m, CA w → CA (w.drewN m)) (hB' : ∀ w m, CB w → CB (w.drewN m)) (hAB : ∀ w, CA w → CB w)
    (hQ : ∀ c a (d : Option Tmp) v w, Q (.panic c) (a.put d v) w → Q (.panic c) a w) (hx : ∃ x, CA x)
    (hqA : ∀ x, CA x → wpQuiet P l.toArray (fun w' => ∃ m, w' = x.drewN m) (fun a' => a' = aF) (qs.filterMap fun k => l[k]?) a)
    (hqB : ∀ x, CB x → wpQuiet P l.toArray (fun w' => ∃ m, w' = x.drewN m) (fun a' => a' = aF) ((qs.filter fun i => !E.contains i).filterMap fun k => l[k]?) aE)
    (h : wpC P l.toArray CA CB Q s ts aF (w.drewN (k + 1))) : (Code.region id l.toArray true).wp P Q a (w.drewN k) := by
  obtain ⟨T, hpw, hts, hdst⟩ := two_of hB
  have hl : (fun k : Nat => l.toArray[k]?) = (fun k : Nat => l[k]?) := by funext k; simp
  have hnd := (List.nodup_append.1 T.nodup).1
  obtain ⟨x0, hx0⟩ := hx
  obtain ⟨hfill, hvA⟩ := vals_at (P := P) (ops := l.toArray) (C := CA) (aF := aF) T (fun i hi => hi) hpw hn hsz ⟨x0, hx0⟩ (fun x hx => by rw [hl]; exact hqA x hx)
  have hsub : ∀ i ∈ qs.filter (fun i => !E.contains i), i ∈ qs := fun i hi => (List.mem_filter.1 hi).1
  have hszB : boundsB l.toArray (qs.filter fun i => !E.contains i) n = true := List.all_eq_true.2 fun i hi => List.all_eq_true.1 hsz i (hsub i hi)
  obtain ⟨_, hvB⟩ := vals_at (P := P) (ops := l.toArray) (C := CB) (aF := aF) T hsub (hpw.sublist List.filter_sublist) hnE hszB ⟨x0, hAB _ hx0⟩ (fun x hx => by rw [hl]; exact hqB x hx)
  refine wp_region_any hm ?_
  have hlen : qs.length + ts.length = l.toArray.size := by
    have h1 : (qs ++ ts).Perm (List.range l.toArray.size) := by
      refine (List.perm_ext_iff_of_nodup T.nodup List.nodup_range).2 fun i => ?_
      rw [List.mem_range, T.all i, List.mem_append]
    have := h1.length_eq
    simpa using this
  have hd0 : ∀ i, i < l.toArray.size → (Array.replicate l.toArray.size false).getD i true = false := fun i hi => getD_in (by simpa using hi) (getD_replicate_false _ _)
  exact inter_any (P := P) (ops := l.toArray) (md := .any) (CA := CA) (CB := CB) (Q := Q) (aF := aF) (E := E) T hA' hB' hAB hQ hvA (fun i hi hiE => hvB i (List.mem_filter.2 ⟨hi, by simpa using hiE⟩)) l.toArray.size (Array.replicate l.toArray.size false) qs [] ts s a (w.drewN (k + 1)) hlen.symm rfl (by simp)
    (fun i hi => ⟨fun _ => (T.all i).1 hi, fun _ => hd0 i hi⟩) (fun i hi => hi) hnd (fun i hi o ho => by rw [← hfill]; exact ⟨rfl, rfl⟩) (fun i hi => .inr hts)
    (fun i hi _ => by
      have h1 := List.all_eq_true.1 hE i hi
      obtain ⟨t, ht, hw⟩ := List.any_eq_true.1 h1
      exact ⟨t, ht, hw⟩) (by rw [← hfill]; exact h)

theorem wpC_consA {s t : Nat} {ts : List Nat} {a : Act} {w : World} {o : Oper} (ho : ops[t]? = some o) (hC : CA w) (hg : o.guard = none) (h : ∀ m, o.wp P a (w.drewN m) (wpC P ops CA CB Q s ts) Q) : wpC P ops CA CB Q (s + 1) (t :: ts) a w := by
  refine ⟨hC, fun m => ?_⟩
  unfold wpOp
  simp only [ho]
  rw [if_pos (by simp [Region.wanted, hg])]
  exact .inl (h m)

theorem wpC_consB {t : Nat} {ts : List Nat} {a : Act} {w : World} {o : Oper} (ho : ops[t]? = some o) (hC : CB w) (hg : o.guard = none) (h : ∀ m, o.wp P a (w.drewN m) (wpC P ops CA CB Q 0 ts) Q) : wpC P ops CA CB Q 0 (t :: ts) a w := by
  refine ⟨hC, fun m => ?_⟩
  unfold wpOp
  simp only [ho]
  rw [if_pos (by simp [Region.wanted, hg])]
  exact .inl (h m)

theorem wpC_nil {s : Nat} {a : Act} {w : World} (h : Q .normal a w) : wpC P ops CA CB Q s [] a w := by cases s <;> exact h

def thenC (K : Act → World → Prop) (Q : Exit → Act → World → Prop) : Exit → Act → World → Prop
  | .normal, a, w => K a w
  | e, a, w => Q e a w

/-- one writer, by the list of that one operation -/
theorem wpOp_of_list {t : Nat} {o : Oper} {K : Act → World → Prop} {a : Act} {w : World} (ho : ops[t]? = some o) (h : wpList P ops (thenC K Q) [o] a w) : wpOp P ops Q t K a w := by
  unfold wpOp
  simp only [ho]
  have h' : (if Region.wanted o (yielded ops a.tmps) then o.wp P a w (wpList P ops (thenC K Q) []) (thenC K Q) ∨ (o.asks P a w ∧ LetsOut (thenC K Q)) else wpList P ops (thenC K Q) [] (a.put o.dst undef) w) := h
  have hlets : LetsOut (thenC K Q) → LetsOut Q := fun ⟨a, w, h⟩ => ⟨a, w, h⟩
  split
  · rename_i hw
    rw [if_pos hw] at h'
    rcases h' with h' | h'
    · refine .inl ?_
      unfold Oper.wp at *
      generalize (execOp a.eval o).run P w = r at *
      cases r with
      | ok n w' =>
        cases n <;> simp only [Oper.upon] at h' ⊢ <;>
          first
            | exact h'
            | exact Calls.mono h' (fun e w'' he => by cases e <;> first | exact he | exact hlets he)
            | exact Rows.mono h' (fun _ _ he => he)
      | halt x w' => cases x <;> simp only [Oper.upon] at h' ⊢ <;> exact h'
    · exact .inr ⟨h'.1, hlets h'.2⟩
  · rename_i hw
    rw [if_neg hw] at h'
    exact h'

theorem wpC_listA {s t : Nat} {ts : List Nat} {a : Act} {w : World} {o : Oper} (ho : ops[t]? = some o) (hC : CA w) (h : ∀ m, wpList P ops (thenC (wpC P ops CA CB Q s ts) Q) [o] a (w.drewN m)) : wpC P ops CA CB Q (s + 1) (t :: ts) a w :=
  ⟨hC, fun m => wpOp_of_list ho (h m)⟩

theorem wpC_listB {t : Nat} {ts : List Nat} {a : Act} {w : World} {o : Oper} (ho : ops[t]? = some o) (hC : CB w) (h : ∀ m, wpList P ops (thenC (wpC P ops CA CB Q 0 ts) Q) [o] a (w.drewN m)) : wpC P ops CA CB Q 0 (t :: ts) a w :=
  ⟨hC, fun m => wpOp_of_list ho (h m)⟩

theorem region_two_ex {id : Nat} {a : Act} {w : World} {l : List Oper} (qs ts : List Nat) (e s n : Nat) (ve : Value) (CA CB : World → Prop) (hm : P.follows .mixedOrders = true) (hB : twoB .any l.toArray qs ts = true) (hE : earlyB .any l.toArray [e] ts s = true)
    (hn : a.tmps.size = n) (hsz : boundsB l.toArray qs n = true) (hA' : ∀ w m, CA w → CA (w.drewN m)) (hB' : ∀ w m, CB w → CB (w.drewN m)) (hAB : ∀ w, CA w → CB w)
    (hQ : ∀ c a (d : Option Tmp) v w, Q (.panic c) (a.put d v) w → Q (.panic c) a w) (hx : ∃ x, CA x)
    (h : ∃ aF, (∀ x, CA x → wpQuiet P l.toArray (fun w' => ∃ m, w' = x.drewN m) (fun a' => a' = aF) (qs.filterMap fun k => l[k]?) a) ∧
      (∀ x, CB x → wpQuiet P l.toArray (fun w' => ∃ m, w' = x.drewN m) (fun a' => a' = aF) ((qs.filter fun i => ![e].contains i).filterMap fun k => l[k]?) (a.put ((l[e]?).bind (·.dst)) ve)) ∧
      wpC P l.toArray CA CB Q s ts aF (w.drewN 1)) : (Code.region id l.toArray true).wp P Q a w := by
  obtain ⟨aF, h1, h2, h3⟩ := h
  exact region_two_at (k := 0) qs ts [e] s n CA CB (a.put ((l[e]?).bind (·.dst)) ve) aF hm hB hE hn (by rw [size_put]; exact hn) hsz hA' hB' hAB hQ hx h1 h2 h3

/-! ### append, of a whole row -/

theorem run_append_row {w : World} (base : Nat) (t ty e : TypeId) (i : TypeInfo) (z : Value) (size bytes : Nat) (ht : P.underlying t = some (.slice e)) (hi : P.info? e = some i) (hz : i.zero = some z)
    (hsize : i.size = size) (hby : i.bytes = bytes) (hzs : z.cells.size = size) (hsz : 0 < size) (v : Value) (n : Nat) (xs : List Value) (hown : w.ownsRow base e size v n xs)
    (b2 : Nat) (u : Value) (m : Nat) (news : List Value) (hr : w.ownsRow b2 e size u m news) (h1 : ∀ u ∈ news, u.oneCell' = true)
    (h63 : n + m ≤ maxLen) (hbytes : (n + m) * bytes ≤ 140737488355328) (hbase : base ≤ w.heap.size) :
    ∃ v' w', (Builtin.append_ #[t, t] ty #[v, u]).run P w = .ok v' w' ∧ w'.ownsRow base e size v' (n + m) (xs ++ news) ∧ w.grownBy w' v.ownBlock ∧ (v'.ownBlock = v.ownBlock ∨ v'.ownBlock = some w.heap.size) := by
  rcases hr.2 with ⟨rfl, rfl⟩ | ⟨g, cap, cur, rfl, _, hg, _, _, _, hcur⟩
  · have hnw : news = [] := List.eq_nil_of_length_eq_zero (by simpa using hr.1)
    subst hnw
    refine ⟨v, w, ?_, by simpa using hown, World.grownBy.refl w _, .inl rfl⟩
    rcases hown.2 with ⟨rfl, rfl⟩ | ⟨g, cap, cur, rfl, _, _, hnc, _⟩
    · simp [Builtin.append_, Go.run_underlying ht, sizeOf, typeInfo, hi, Builtin.lenOf, Builtin.firstCells]
    · simp [Builtin.append_, Go.run_underlying ht, sizeOf, typeInfo, hi, Builtin.lenOf, Builtin.firstCells, hnc, storeCells]
  · have hcells : ∀ j u, news[j]? = some u → w.cell? ((⟨g, 0, none⟩ : Addr).add j) = some u := by
      intro j u hu
      have hadd : (⟨g, 0, none⟩ : Addr).add j = ⟨g, j, none⟩ := by unfold Addr.add; split <;> simp_all
      rw [hadd]
      have hjl := (List.getElem?_eq_some_iff.1 hu).1
      refine cell_at hg ?_
      rw [← hcur, List.getElem?_take] at hu
      have := hr.1
      rw [if_pos (by omega)] at hu
      simpa using hu
    obtain ⟨v', w', hrun, h2, h3, _, h5⟩ := run_append_own_at (P := P) w base t ty e i z size bytes ht hi hz hsize hby hzs hsz v n xs hown ⟨g, 0, none⟩ m cap news hr.1 hcells h1 h63 hbytes hbase
    exact ⟨v', w', hrun, h2, h3, h5⟩

theorem wpList_append_row {w : World} {rest : List Oper} {o : Oper} {a : Act} (hgd : o.guard = none) (s x : Operand) (t : TypeId)
    (ho : o.op = .call { callee := .builtin .append, args := #[s, x], argTypes := #[t, t] })
    (base : Nat) (e : TypeId) (i : TypeInfo) (z : Value) (size bytes : Nat) (ht : P.underlying t = some (.slice e)) (hi : P.info? e = some i) (hz : i.zero = some z)
    (hsize : i.size = size) (hby : i.bytes = bytes) (hzs : z.cells.size = size) (hsz : 0 < size)
    (v : Value) (n : Nat) (xs : List Value) (hs : a.eval s = v) (hown : w.ownsRow base e size v n xs)
    (b2 : Nat) (u : Value) (m : Nat) (news : List Value) (hx : a.eval x = u) (hr : w.ownsRow b2 e size u m news) (h1 : ∀ u ∈ news, u.oneCell' = true)
    (h63 : n + m ≤ maxLen) (hbytes : (n + m) * bytes ≤ 140737488355328) (hbase : base ≤ w.heap.size)
    (h : ∀ v' w', w'.ownsRow base e size v' (n + m) (xs ++ news) → w.grownBy w' v.ownBlock → (v'.ownBlock = v.ownBlock ∨ v'.ownBlock = some w.heap.size) → wpList P ops Q rest (a.put o.dst v') w') : wpList P ops Q (o :: rest) a w := by
  refine wpList_plain hgd fun _ hK => ?_
  obtain ⟨v', w', hrun, h2, h3, h4⟩ := run_append_row (P := P) base t o.type e i z size bytes ht hi hz hsize hby hzs hsz v n xs hown b2 u m news hr h1 h63 hbytes hbase
  unfold Oper.wp execOp
  simp only [ho, resolve, invoke, builtin, Sem.run_bind, Sem.run_pure, Result.andThen_ok, List.map_toArray, List.map_cons, List.map_nil, hs, hx, hrun]
  exact hK _ _ (h v' w' h2 h3 h4)
end
end Go.Proofs.Ytleoedjjepkhgaa
