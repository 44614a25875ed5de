import Derived.Test.YtleoedjjepkhgaaFloat
import Derived.OrdersHeld
/- A region that draws its order: 'x = append(x, f(y), ..)' where x lies in a cell: the load of x may come as late as behind the making of the row that is appended. -/
namespace Go.Proofs.Ytleoedjjepkhgaa

section
variable {P : Program} {ops : Array Oper} {md : Region.Mode} {Q : Exit → Act → World → Prop}

/-- whatever order is picked; and S holds behind each operation, till operation T has come -/
def wpAnyT (P : Program) (md : Region.Mode) (ops : Array Oper) (Q : Exit → Act → World → Prop) (S : World → Prop) (T : Nat) : Nat → Array Bool → Act → World → Prop
  | 0, listed, a, w => Region.ready md ops listed = [] ∧ Q .normal a w
  | fuel + 1, listed, a, w =>
    (Region.ready md ops listed = [] → Q .normal a w) ∧
    ∀ i ∈ Region.ready md ops listed, wpOp P ops Q i (fun a' w' => ((listed.setIfInBounds i true).getD T true = false → S w') ∧ wpAnyT P md ops Q S T fuel (listed.setIfInBounds i true) a' w') a w

theorem any_of_T {S : World → Prop} {T : Nat} : ∀ (fuel : Nat) (listed : Array Bool) (a : Act) (w : World), wpAnyT P md ops Q S T fuel listed a w → wpAny P md ops Q fuel listed a w
  | 0, _, _, _, h => h
  | fuel + 1, _, _, _, h => ⟨h.1, fun i hi => wpOp_mono (fun a' w' h' => any_of_T fuel _ a' w' h'.2) (h.2 i hi)⟩

/-- an operation for which T waits may be taken first, if it yields its value wherever S holds -/
theorem anyT_first {S : World → Prop} {T i : Nat} {oi oT : Oper} {v : Value} (hi : ops[i]? = some oi) (hsel : ∀ (j : Nat) (o : Oper) cs b, ops[j]? = some o → o.op ≠ .select cs b)
    (hQ : ∀ c a w, Q (.panic c) (a.put oi.dst v) w → Q (.panic c) a w) (hoT : ops[T]? = some oT) (hTi : ∃ e ∈ oT.after, Region.binds md e = true ∧ e.on = i) (hne : T ≠ i) :
    ∀ (fuel : Nat) (listed : Array Bool) (a : Act) (w : World),
      (∀ j oj, ops[j]? = some oj → j ≠ i → listed.getD j true = false → (∀ e ∈ oj.after, Region.binds md e = true → e.on ≠ i) → oi.apart ops oj = true) →
      listed.getD T true = false → i ∈ Region.ready md ops listed → YieldsIf P ops S oi v a → S w →
      wpAnyT P md ops Q S T fuel (listed.setIfInBounds i true) (a.put oi.dst v) w → wpAny P md ops Q (fuel + 1) listed a w := by
  intro fuel
  induction fuel with
  | zero =>
    intro listed a w _ _ hr hy hS H
    refine ⟨fun h => (by rw [h] at hr; cases hr), fun j hj => ?_⟩
    by_cases hji : j = i
    · subst hji; exact hy.wpOp hi hS (any_of_T _ _ _ _ H)
    · have := ready_mono hj hji
      rw [H.1] at this
      cases this
  | succ fuel ih =>
    intro listed a w hfree hT hr hy hS H
    refine ⟨fun h => (by rw [h] at hr; cases hr), fun j hj => ?_⟩
    by_cases hji : j = i
    · subst hji; exact hy.wpOp hi hS (any_of_T _ _ _ _ H)
    · have h1 := H.2 j (ready_mono hj hji)
      obtain ⟨hjun, oj, hoj, hall⟩ := mem_ready.1 hj
      have hopen := (mem_ready.1 hr).1
      have hnot : ∀ e ∈ oj.after, Region.binds md e = true → e.on ≠ i := fun e he hb heq => by
        have h1 := hall e he hb
        rw [heq, getD_both hopen] at h1
        cases h1
      have hjT : j ≠ T := by
        intro e
        subst e
        obtain ⟨e, he, hb, hon⟩ := hTi
        rw [hoT] at hoj
        cases hoj
        exact hnot e he hb hon
      have h2 := wpOp_putIf hoj (hfree j oj hoj hji hjun hnot) (fun cs b => hsel i oi cs b hi) (fun cs b => hsel j oj cs b hoj) hQ hy h1
      have hfree' : ∀ k ok, ops[k]? = some ok → k ≠ i → (listed.setIfInBounds j true).getD k true = false →
          (∀ e ∈ ok.after, Region.binds md e = true → e.on ≠ i) → oi.apart ops ok = true := fun k ok hk hki hun hno => by
        refine hfree k ok hk hki ?_ hno
        by_cases hjk : j = k
        · subst hjk; exact hjun
        · rw [getD_set_ne true hjk] at hun; exact hun
      have hT' : (listed.setIfInBounds j true).getD T true = false := by rw [getD_set_ne true hjT]; exact hT
      have hT2 : ((listed.setIfInBounds i true).setIfInBounds j true).getD T true = false := by rw [getD_set_ne true hjT, getD_set_ne true (Ne.symm hne)]; exact hT
      refine wpOp_mono (fun a' w' h3 => ih (listed.setIfInBounds j true) a' w' hfree' hT' (ready_mono hr (Ne.symm hji)) h3.1 (h3.2.1 hT2) ?_) h2
      rw [Array.setIfInBounds_comm _ _ hji]
      exact h3.2.2

theorem anyT_of_quietHead {C S : World → Prop} (hCS : ∀ w, C w → S w) {T n g : Nat} {L : Array Bool → Act → Prop} (hL : ∀ done a w, C w → L done a → wpAnyT P md ops Q S T g done a w) (f : Nat) :
    ∀ (done : Array Bool) (a : Act) (w : World), C w → quietHead P md ops C n L f done a → wpAnyT P md ops Q S T (f + g) done a w := by
  induction f with
  | zero => intro done a w hw h; rw [Nat.zero_add]; exact hL done a w hw h
  | succ f ih =>
    intro done a w hw h
    rw [show f + 1 + g = (f + g) + 1 by omega]
    exact ⟨fun e => absurd e h.1, fun i hi => wpOp_of_qOp hw (fun a' w' hw' h' => ⟨fun _ => hCS w' hw', ih _ a' w' hw' h'⟩) (h.2 i hi).2⟩

theorem anyT_of_seq {S : World → Prop} {T : Nat} : ∀ (l : List Oper) (k : Nat) (listed : Array Bool) (a : Act) (w : World), T < listed.size → (k = T ∨ listed.getD T true = true) → (∀ j, l[j]? = ops[k + j]?) →
    Region.seqB md ops l.length k listed = true → wpList P ops Q l a w → wpAnyT P md ops Q S T l.length listed a w
  | [], _, _, _, _, _, _, _, hB, h => ⟨by simpa [Region.seqB] using hB, h⟩
  | o :: l, k, listed, a, w, hsz, hk, hl, hB, h => by
    have h0 : ops[k]? = some o := by simpa using (hl 0).symm
    simp only [List.length_cons, Region.seqB, Bool.and_eq_true, decide_eq_true_eq] at hB
    refine ⟨fun h1 => (by rw [hB.1] at h1; cases h1), fun i hi => ?_⟩
    rw [hB.1] at hi
    have hik : i = k := by simpa using hi
    subst hik
    have hw : wpOp P ops Q i (wpList P ops Q l) a w := by unfold wpOp; simp only [h0]; exact h
    have hT : (listed.setIfInBounds i true).getD T true = true := by
      by_cases e : i = T
      · subst e; simp [hsz]
      · rw [getD_set_ne true e]
        rcases hk with h | h
        · exact absurd h e
        · exact h
    exact wpOp_mono (fun a' w' h' => ⟨(fun hf => by rw [hT] at hf; cases hf), anyT_of_seq l (i + 1) _ a' w' (by simpa using hsz) (.inr hT) (fun j => by have := hl (j + 1); simpa [Nat.add_assoc, Nat.add_comm 1 j] using this) hB.2 h'⟩) hw

/-- each cell of w is as it was -/
def Keeps (w w' : World) : Prop := ∀ ad u, w.cell? ad = some u → w'.cell? ad = some u

theorem keeps_drewN (w : World) (m : Nat) : Keeps w (w.drewN m) := fun _ _ h => h

theorem Keeps.alloc {w w' : World} (h : Keeps w w') (o : Obj) : Keeps w (w'.alloc o) := fun ad u hu => by
  have h1 := h ad u hu
  rw [World.cell?_alloc_lt _ _ _ (World.block_lt_of_cell? w' ad h1)]
  exact h1

/-- operation 0 may come late; the head is 1 .. n-1; n makes memory; n+1 waits for 0 -/
def lateB (ops : Array Oper) (n : Nat) : Bool :=
  Region.noSelect ops && decide (n + 1 < ops.size) && decide (1 ≤ n) && sinkF .any ops [0] n && Region.chainB .any ops n && (Region.ready .any ops (Array.replicate ops.size false)).contains 0 &&
    Region.free .any ops (Array.replicate ops.size false) 0 && Region.waitsFor .any ops (n + 1) 0 &&
    (let done := (Array.replicate ops.size false).setIfInBounds 0 true
     ((List.range ops.size).all fun j => !done.getD j false || ((ops[j]?).map fun o => o.after.all fun e => !Region.binds .any e || done.getD e.on false).getD true) &&
      ((List.range ops.size).all fun t => decide (t < n) || !done.getD t true) && idxHead .any ops (ops.size - n) n ((List.range (n - 1)).map (· + 1)) done)

theorem region_late {id : Nat} {a : Act} {w : World} {l : List Oper} (n : Nat) (o0 on : Oper) (h0 : l[0]? = some o0) (hn : l[n]? = some on) (hg0 : o0.guard = none) (hgn : on.guard = none) (hm : P.follows .mixedOrders = true) (hB : lateB l.toArray n = true)
    (hQ : ∀ c a (d : Option Tmp) v w, Q (.panic c) (a.put d v) w → Q (.panic c) a w) (v : Value) (hv : ∀ w', Keeps w w' → (execOp a.eval o0).run P w' = .ok (.value v) w')
    (h : wpQuiet P l.toArray (fun w' => ∃ m, w' = w.drewN m) (fun a' => ∀ m, ∃ x obj, (execOp a'.eval on).run P (w.drewN m) = .ok (.value x) ((w.drewN m).alloc obj) ∧ wpList P l.toArray Q (l.drop (n + 1)) (a'.put on.dst x) ((w.drewN m).alloc obj))
      (((List.range (n - 1)).map (· + 1)).filterMap fun k => l[k]?) (a.put o0.dst v)) : (Code.region id l.toArray true).wp P Q a w := by
  simp only [lateB, Bool.and_eq_true, decide_eq_true_eq] at hB
  obtain ⟨⟨⟨⟨⟨⟨⟨⟨hsel, hsz⟩, hn1⟩, hs⟩, hc⟩, hr0⟩, hf0⟩, hw0⟩, ⟨⟨hcl, htl⟩, hidx⟩⟩ := hB
  have hsz' : n + 1 < l.length := by simpa using hsz
  have h0' : l.toArray[0]? = some o0 := by simpa using h0
  have hn' : l.toArray[n]? = some on := by simpa using hn
  have hr0' : 0 ∈ Region.ready .any l.toArray (Array.replicate l.toArray.size false) := by simpa using hr0
  obtain ⟨oT, hoT, hTe⟩ := Region.waitsFor_spec hw0
  have inv : HeadInv .any l.toArray n ((Array.replicate l.toArray.size false).setIfInBounds 0 true) := by
    refine ⟨by simp, ?_, ?_⟩
    · intro j oj hj hd e he hb
      have h1 := List.all_eq_true.1 hcl j (List.mem_range.2 (Array.getElem?_eq_some_iff.1 hj).1)
      rw [hd, hj] at h1
      simp only [Bool.not_true, Bool.false_or, Option.map_some, Option.getD_some] at h1
      have h2 := Array.all_eq_true_iff_forall_mem.1 h1 e he
      rw [hb] at h2
      simpa using h2
    · intro t ht ht2
      have h1 := List.all_eq_true.1 htl t (List.mem_range.2 ht2)
      simp only [Bool.or_eq_true, decide_eq_true_eq] at h1
      rcases h1 with h1 | h1
      · omega
      · simpa using h1
  have hF' : ∀ i ∈ [0], ((Array.replicate l.toArray.size false).setIfInBounds 0 true).getD i true = true := by
    intro i hi
    simp only [List.mem_cons, List.not_mem_nil, or_false] at hi
    subst hi
    have : 0 < l.length := by omega
    simp [this]
  have hl : (fun k : Nat => l[k]?) = (fun k : Nat => l.toArray[k]?) := by funext k; simp
  rw [hl] at h
  have hT0 : (Array.replicate l.toArray.size false).getD (n + 1) true = false := getD_in (by simpa using hsz) (getD_replicate_false _ _)
  have H := floatHead_lex (P := P) (C := fun w' => ∃ m, w' = w.drewN m) (md := .any) (g := l.toArray.size - n) hsel hs hc (by omega) ((List.range (n - 1)).map (· + 1)) _ (a.put o0.dst v) inv hF' hidx h
  refine wp_region_any hm ?_
  have hl2 : (l.drop (n + 1)).length = l.toArray.size - n - 1 := by simp; omega
  have hlen : ((List.range (n - 1)).map (· + 1)).length = n - 1 := by simp
  have R := anyT_of_quietHead (P := P) (ops := l.toArray) (md := .any) (Q := Q) (S := Keeps w) (T := n + 1) (g := l.toArray.size - n) (fun w' (hw' : ∃ m, w' = w.drewN m) => by obtain ⟨m, rfl⟩ := hw'; exact keeps_drewN w m) (fun done a' w' hw' hL => by
    obtain ⟨m, rfl⟩ := hw'
    obtain ⟨hseq, hK⟩ := hL
    rw [show l.toArray.size - n = (l.drop (n + 1)).length + 1 by omega] at hseq ⊢
    simp only [Region.seqB, Bool.and_eq_true, decide_eq_true_eq] at hseq
    obtain ⟨hr, hseq'⟩ := hseq
    obtain ⟨x, obj, hrun, hlist⟩ := hK m
    refine ⟨fun e => (by rw [hr] at e; cases e), fun i hi => ?_⟩
    rw [hr] at hi
    have hin : i = n := by simpa using hi
    subst hin
    have hsz2 : i + 1 < (done.setIfInBounds i true).size := by
      obtain ⟨q, hq⟩ : ∃ q, (l.drop (i + 1)).length = q + 1 := ⟨(l.drop (i + 1)).length - 1, by omega⟩
      have h1 := hseq'
      rw [hq] at h1
      simp only [Region.seqB, Bool.and_eq_true, decide_eq_true_eq] at h1
      have h2 : i + 1 ∈ Region.ready .any l.toArray (done.setIfInBounds i true) := by rw [h1.1]; simp
      have h3 := (mem_ready.1 h2).1
      rcases Nat.lt_or_ge (i + 1) (done.setIfInBounds i true).size with h' | h'
      · exact h'
      · simp [Array.getElem?_eq_none h'] at h3
    unfold wpOp
    simp only [hn']
    rw [if_pos (by simp [Region.wanted, hgn])]
    refine .inl ?_
    unfold Oper.wp
    rw [hrun]
    exact ⟨fun _ => (keeps_drewN w m).alloc obj, anyT_of_seq (l.drop (i + 1)) (i + 1) _ _ _ hsz2 (.inl rfl) (fun j => by simp [List.getElem?_drop]) hseq' hlist⟩) _ _ _ (w.drewN 1) ⟨1, rfl⟩ H
  rw [hlen, show n - 1 + (l.toArray.size - n) = l.toArray.size - 1 by omega] at R
  have G := anyT_first (T := n + 1) (S := Keeps w) (i := 0) h0' (Region.noSelect_spec hsel) (fun c a' w' hh => hQ c a' o0.dst v w' hh) hoT hTe (by omega) (l.toArray.size - 1) _ a (w.drewN 1) (Region.free_spec h0' hf0) hT0 hr0' (.inl ⟨by simp [Region.wanted, hg0], hv⟩) (keeps_drewN w 1) R
  rw [show l.toArray.size - 1 + 1 = l.toArray.size by omega] at G
  exact G

end
end Go.Proofs.Ytleoedjjepkhgaa
