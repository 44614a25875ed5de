import Derived.WalkKit
import Derived.Maps.OwnOps
/- Maps whose keys are words: what a look-up and a store do. -/
namespace Go.Proofs.Ytleoedjjepkhgaa
open Go.RowKit

def wkey : Value → Option Int
  | .int .u64 b => some b
  | _ => none

theorem wkey_int (a : Int) : wkey (.int .u64 a) = some a := rfl

theorem wkey_eq {v : Value} {a : Int} (h : wkey v = some a) : v = .int .u64 a := by
  unfold wkey at h
  split at h
  · cases h; rfl
  · cases h

/-- the value of a key, in a map's entries -/
def look : List MapEntry → Int → Option Value
  | [], _ => none
  | e :: es, a => if wkey e.key = some a then some e.val else look es a

/-- block b is a map with words for keys that reads as f -/
def MapIs (w : World) (b : Nat) (f : Int → Option Value) : Prop :=
  ∃ es clock, w.heap[b]? = some (.map es clock) ∧ (∀ e ∈ es.toList, ∃ a, wkey e.key = some a) ∧ ∀ a, look es.toList a = f a

theorem MapIs.lt {w : World} {b : Nat} {f : Int → Option Value} (h : MapIs w b f) : b < w.heap.size := by
  obtain ⟨es, clock, h1, _⟩ := h
  exact (Array.getElem?_eq_some_iff.1 h1).1

theorem MapIs.kept {w w' : World} {b : Nat} {f : Int → Option Value} (h : MapIs w b f) (hb : w'.heap[b]? = w.heap[b]?) : MapIs w' b f := by
  obtain ⟨es, clock, h1, h2⟩ := h
  exact ⟨es, clock, hb.trans h1, h2⟩

theorem mapIs_new (w : World) : MapIs (w.alloc (.map #[] 0)) w.heap.size (fun _ => none) := ⟨#[], 0, heap_alloc_new w _, by simp, fun _ => rfl⟩

/-- where a key stands -/
def spotIn : List MapEntry → Int → Nat → Option (Nat × Value)
  | [], _, _ => none
  | e :: es, a, i => if wkey e.key = some a then some (i, e.val) else spotIn es a (i + 1)

theorem findNow_spot (a : Int) : ∀ (es : List MapEntry) (i : Nat), (∀ e ∈ es, ∃ b, wkey e.key = some b) → Instr.findNow (.int .u64) (.int .u64 a) es i = some (spotIn es a i) := by
  intro es
  induction es with
  | nil => intro i _; rfl
  | cons e es ih =>
    intro i h
    obtain ⟨b, hb⟩ := h e (by simp)
    have ih' := ih (i + 1) (fun x hx => h x (by simp [hx]))
    unfold Instr.findNow spotIn
    rw [wkey_eq hb]
    by_cases hab : a = b
    · subst hab; simp [Instr.sameNow, wkey]
    · have hba : ¬ b = a := fun h => hab h.symm
      have hbb : (a == b) = false := by simpa using hab
      simp [Instr.sameNow, hbb, hba, ih', wkey]

theorem look_spot (es : List MapEntry) (a : Int) (i : Nat) : look es a = (spotIn es a i).map (·.2) := by
  induction es generalizing i with
  | nil => rfl
  | cons e es ih =>
    unfold look spotIn
    split
    · rfl
    · exact ih _

theorem spot_spec (a : Int) : ∀ (es : List MapEntry) (i j : Nat) (v : Value), spotIn es a i = some (j, v) → i ≤ j ∧ j < i + es.length ∧ (∃ e, es[j - i]? = some e ∧ wkey e.key = some a) ∧
    ∀ (k' : Int) (u : Value), look ((es.modify (j - i) fun e => { e with key := .int .u64 a, val := u })) k' = if k' = a then some u else look es k' := by
  intro es
  induction es with
  | nil => intro i j v h; cases h
  | cons e es ih =>
    intro i j v h
    unfold spotIn at h
    by_cases hk : wkey e.key = some a
    · rw [if_pos hk] at h
      simp only [Option.some.injEq, Prod.mk.injEq] at h
      obtain ⟨rfl, rfl⟩ := h
      refine ⟨Nat.le_refl _, by simp, ⟨e, by simp, hk⟩, fun k' u => ?_⟩
      rw [Nat.sub_self]
      simp only [List.modify_zero_cons, look, wkey_int, hk, Option.some.injEq]
      by_cases hka : k' = a
      · subst hka; simp
      · rw [if_neg (fun h => hka h.symm), if_neg hka, if_neg (fun h => hka h.symm)]
    · rw [if_neg hk] at h
      obtain ⟨h1, h2, ⟨e', h3, h4⟩, h5⟩ := ih (i + 1) j v h
      have e1 : j - i = (j - (i + 1)) + 1 := by omega
      refine ⟨by omega, by simp only [List.length_cons]; omega, ⟨e', by rw [e1]; simpa using h3, h4⟩, fun k' u => ?_⟩
      rw [e1, List.modify_succ_cons]
      simp only [look]
      rw [h5 k' u]
      by_cases hka : k' = a
      · subst hka; rw [if_neg hk, if_pos rfl, if_pos rfl]
      · rw [if_neg hka, if_neg hka]

theorem look_push (es : List MapEntry) (a : Int) (u : Value) (n : Nat) (h : look es a = none) (k' : Int) : look (es ++ [{ key := .int .u64 a, val := u, born := n }]) k' = if k' = a then some u else look es k' := by
  induction es with
  | nil =>
    simp only [List.nil_append, look, wkey_int, Option.some.injEq]
    by_cases hka : k' = a
    · subst hka; simp
    · rw [if_neg (fun h => hka h.symm), if_neg hka]
  | cons e es ih =>
    unfold look at h
    split at h
    · cases h
    · rename_i hk
      simp only [List.cons_append, look]
      rw [ih h]
      by_cases hka : k' = a
      · subst hka; rw [if_neg hk, if_pos rfl, if_pos rfl]
      · rw [if_neg hka, if_neg hka]

section
variable {P : Program} {w : World} {b : Nat} {f : Int → Option Value} {t k e : TypeId}

theorem run_checkKey_int (empty : Bool) (n : Nat) (a : Int) (hk : P.underlying k = some (.int .u64)) (w : World) : (Instr.checkKey empty (n + 1) k (.int .u64 a)).run P w = .ok () w := by
  simp [Instr.checkKey, run_underlying hk]

theorem run_findKey_int {es : List MapEntry} (hes : ∀ x ∈ es, ∃ b, wkey x.key = some b) (hk : P.underlying k = some (.int .u64)) (a : Int) (w : World) : (Instr.findKey k (.int .u64 a) es).run P w = .ok (spotIn es a 0) w := by
  simp [Instr.findKey, run_underlying hk, findNow_spot a es 0 hes]

theorem run_lookup_word (h : MapIs w b f) (ht : P.underlying t = some (.map k e)) (hk : P.underlying k = some (.int .u64)) {z : Value} (hz : (zeroValue e).run P w = .ok z w) (a : Int) :
    (Instr.lookup t (.map (some b)) (.int .u64 a) false).run P w = .ok ((f a).getD z) w := by
  obtain ⟨es, clock, h1, h2, h3⟩ := h
  have hf := h3 a
  rw [look_spot _ _ 0] at hf
  have hfk := run_findKey_int (P := P) h2 hk a w
  have hck := run_checkKey_int (P := P) es.isEmpty 9999 a hk w
  have hgo := run_getObj_map (P := P) w b es clock h1
  cases hs : spotIn es.toList a 0 with
  | none =>
    rw [hs] at hfk hf
    simp only [Option.map_none] at hf
    rw [← hf]
    simp [Instr.lookup, run_underlying ht, hgo, hck, hfk, hz]
  | some p =>
    rw [hs] at hfk hf
    simp only [Option.map_some] at hf
    rw [← hf]
    simp [Instr.lookup, run_underlying ht, hgo, hck, hfk]

theorem setBlock_ne (w : World) (b i : Nat) (o : Obj) (h : some i ≠ some b) : (w.heap.setIfInBounds b o)[i]? = w.heap[i]? := by
  rw [Array.getElem?_setIfInBounds, if_neg (fun e => h (by rw [e]))]

theorem run_update_word (h : MapIs w b f) (ht : P.underlying t = some (.map k e)) (hk : P.underlying k = some (.int .u64)) (a : Int) (v : Value) :
    ∃ w', (Instr.mapUpdate t (.map (some b)) (.int .u64 a) v).run P w = .ok () w' ∧ MapIs w' b (fun x => if x = a then some v else f x) ∧ w.grownBy w' (some b) := by
  obtain ⟨es, clock, h1, h2, h3⟩ := h
  have hf := h3 a
  rw [look_spot _ _ 0] at hf
  have hfk := run_findKey_int (P := P) h2 hk a w
  have hck := run_checkKey_int (P := P) false 9999 a hk w
  have hgo := run_getObj_map (P := P) w b es clock h1
  have hset : ∀ o, (setObj b o).run P w = .ok () { w with heap := w.heap.setIfInBounds b o } := fun o => by simp [setObj, Sem.run, h1]
  have hlt := (Array.getElem?_eq_some_iff.1 h1).1
  cases hs : spotIn es.toList a 0 with
  | none =>
    rw [hs] at hfk hf
    simp only [Option.map_none] at hf
    have hl : look es.toList a = none := by rw [h3 a, ← hf]
    refine ⟨{ w with heap := w.heap.setIfInBounds b (.map (es.push { key := .int .u64 a, val := v, born := clock }) (clock + 1)) }, by simp [Instr.mapUpdate, run_underlying ht, hgo, hck, hfk, hset], ⟨es.push { key := .int .u64 a, val := v, born := clock }, clock + 1, by simp [hlt], ?_, ?_⟩, ⟨rfl, rfl, rfl, by simp, fun i hi hib => setBlock_ne w b i _ hib⟩⟩
    · intro x hx
      simp only [Array.toList_push, List.mem_append, List.mem_singleton] at hx
      rcases hx with hx | rfl
      · exact h2 x hx
      · exact ⟨a, rfl⟩
    · intro x
      rw [Array.toList_push, look_push _ _ _ _ hl, h3 x]
  | some p =>
    obtain ⟨j, u⟩ := p
    rw [hs] at hfk
    obtain ⟨s1, s2, ⟨e0, s3, s4⟩, s5⟩ := spot_spec a es.toList 0 j u hs
    rw [Nat.sub_zero] at s3 s5
    have hj : j < es.size := by simpa using s2
    have hkey : ((es[j]?).map (·.key)).getD (.int .u64 a) = .int .u64 a := by
      have : es[j]? = some e0 := by simpa using s3
      rw [this]; exact wkey_eq s4
    have hstay : ∀ w : World, (Instr.keyThatStays (.int .u64 a) (.int .u64 a)).run P w = .ok (.int .u64 a) w := fun w => by simp [Instr.keyThatStays, Instr.sameBits]
    refine ⟨{ w with heap := w.heap.setIfInBounds b (.map (es.modify j fun e => { e with key := .int .u64 a, val := v }) clock) }, by simp only [Instr.mapUpdate, Sem.run_bind, run_underlying ht, Result.andThen_ok, hgo, hck, hfk, hkey, hstay, hset], ⟨es.modify j fun e => { e with key := .int .u64 a, val := v }, clock, by simp [hlt], ?_, ?_⟩, ⟨rfl, rfl, rfl, by simp, fun i hi hib => setBlock_ne w b i _ hib⟩⟩
    · intro x hx
      rw [Array.toList_modify] at hx
      obtain ⟨i, hi, rfl⟩ := List.mem_iff_getElem.1 hx
      rw [List.getElem_modify]
      split
      · exact ⟨a, rfl⟩
      · exact h2 _ (List.getElem_mem _)
    · intro x
      rw [Array.toList_modify, s5 x v, h3 x]

/-- a store into a map, for the walk -/
theorem wpList_update_word (w : World) {ops : Array Oper} {rest : List Oper} {o : Oper} {a : Act} {Q : Exit → Act → World → Prop}
    (hg : o.guard = none) (m x v : Operand) (hop : o.op = Op.mapUpdate t m x v) (ht : P.underlying t = some (.map k e)) (hk : P.underlying k = some (.int .u64)) (b : Nat) (f : Int → Option Value)
    (hm : a.eval m = .map (some b)) (hown : MapIs w b f) (key : Int) (hx : a.eval x = .int .u64 key) (val : Value) (hv : a.eval v = val)
    (hK : ∀ w', MapIs w' b (fun y => if y = key then some val else f y) → w.grownBy w' (some b) → wpList P ops Q rest (a.put o.dst undef) w') : wpList P ops Q (o :: rest) a w := by
  refine wpList_plain hg fun K' hK' => ?_
  obtain ⟨w', hrun, r1, r2⟩ := run_update_word (P := P) hown ht hk key val
  unfold Oper.wp
  simp [execOp, hop, hm, hx, hv, hrun, Result.andThen]
  exact hK' _ _ (hK w' r1 r2)
end

end Go.Proofs.Ytleoedjjepkhgaa
