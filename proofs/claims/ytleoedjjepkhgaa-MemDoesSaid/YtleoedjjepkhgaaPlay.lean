import Derived.Test.YtleoedjjepkhgaaAlloc
import Derived.Test.YtleoedjjepkhgaaSet
/- Layer 4, plain: what laying with collections does, and what steps do. -/
namespace Go.Proofs.Ytleoedjjepkhgaa

/-- a block is laid, behind a collection where there is no room: the word, the roots (none where it fails), what is wrong, the state, how many collections -/
structure Laid where
  word : Int
  roots : Option (List Int)
  err : Int
  st : St
  more : Nat

def memAlloc (S : St) (t m : Int) (roots : List Int) : Laid :=
  if allocErr S t m = 0 then ⟨layWord S t m, some roots, 0, S.lay t m, 0⟩
  else if allocErr S t m ≠ 10 then ⟨0, none, allocErr S t m, S, 0⟩
  else if (S.n : Int) < (S.cells roots : Int) + m + 1 then ⟨0, none, 10, S, 0⟩
  else ⟨layWord (S.coll roots) t m, some (S.now roots), allocErr (S.coll roots) t m, (S.coll roots).lay t m, 1⟩

/-- what is wrong with what is asked for, wherever there is room -/
def askErr (t m : Int) : Int := if (t < 0 ∨ 199 < t) ∧ t ≠ 200 ∧ t ≠ 202 then 1 else if m < 0 ∨ 4096 < m then 2 else 0

theorem allocErr_ask (S : St) (t m : Int) : allocErr S t m = if askErr t m ≠ 0 then askErr t m else if (S.base : Int) + (S.n : Int) < (S.top : Int) + m + 1 then 10 else 0 := by
  unfold allocErr askErr
  split
  · rfl
  · split
    · rfl
    · rfl

theorem cells_le_span {S : St} (roots : List Int) : S.cells roots ≤ span S.L := by
  have h := good_span (good_reach S roots)
  exact h

/-- there is no room just if what is in reach and what is asked for don't fit, whatever else there is -/
theorem memAlloc_err (S : St) (t m : Int) (roots : List Int) : (memAlloc S t m roots).err = if askErr t m ≠ 0 then askErr t m else if (S.n : Int) < (S.cells roots : Int) + m + 1 then 10 else 0 := by
  have hc : S.cells roots ≤ span S.L := cells_le_span roots
  have htop : (S.top : Int) = (S.base : Int) + (span S.L : Int) := by unfold St.top; push_cast; rfl
  have hct : ((S.coll roots).top : Int) = ((S.coll roots).base : Int) + (S.cells roots : Int) := by have := coll_top S roots; omega
  have hcn : (S.coll roots).n = S.n := rfl
  have h0 := allocErr_ask S t m
  have h1 := allocErr_ask (S.coll roots) t m
  rw [hcn, hct] at h1
  rw [htop] at h0
  have h10 : askErr t m ≠ 10 := by
    unfold askErr
    split
    · decide
    · split <;> decide
  by_cases ha : askErr t m = 0
  · have hn : ¬ askErr t m ≠ 0 := fun h => h ha
    rw [if_neg hn] at h0 h1 ⊢
    by_cases hr : (S.base : Int) + (S.n : Int) < (S.base : Int) + (span S.L : Int) + m + 1
    · rw [if_pos hr] at h0
      have q0 : ¬ allocErr S t m = 0 := by omega
      have q1 : ¬ allocErr S t m ≠ 10 := by omega
      unfold memAlloc
      rw [if_neg q0, if_neg q1]
      by_cases hf : (S.n : Int) < (S.cells roots : Int) + m + 1
      · rw [if_pos hf, if_pos hf]
      · rw [if_neg hf, if_neg hf]
        rw [if_neg (by omega)] at h1
        exact h1
    · rw [if_neg hr] at h0
      unfold memAlloc
      rw [if_pos h0, if_neg (by omega)]
  · rw [if_pos ha] at h0 ⊢
    have q0 : ¬ allocErr S t m = 0 := by omega
    have q1 : allocErr S t m ≠ 10 := by omega
    unfold memAlloc
    rw [if_neg q0, if_pos q1]
    exact h0

/-- a step, as it came in -/
structure Stp where
  kind : Int
  a : Int
  b : Int
  c : Int

def placeOf (c : Int) : Nat := (w64 c % 8).toNat
def pickOf (a n : Int) : Int := w64 a % n

/-- where the play is: the arena, what is held, how many collections there were -/
structure Pl where
  st : St
  held : List Int
  count : Nat

def Pl.force (T : Pl) : Pl := ⟨T.st.coll T.held, T.st.now T.held, T.count + 1⟩

/-- a step: where the play is then, and what went wrong -/
def stepP (T : Pl) (s : Stp) : Pl × Int :=
  if s.kind = 0 then
    match (memAlloc T.st s.a s.b T.held).roots with
    | some l => (⟨(memAlloc T.st s.a s.b T.held).st, l.set (placeOf s.c) (memAlloc T.st s.a s.b T.held).word, T.count + (memAlloc T.st s.a s.b T.held).more⟩, (memAlloc T.st s.a s.b T.held).err)
    | none => (T, (memAlloc T.st s.a s.b T.held).err)
  else if s.kind = 1 ∨ s.kind = 2 ∨ s.kind = 5 then
    if T.st.sizeOf (wat T.held (placeOf s.b)) ≤ 0 then (T, 0)
    else if s.kind = 5 then
      (⟨T.st, T.held.set (placeOf s.c) (T.st.get (wat T.held (placeOf s.b)) (pickOf s.a (T.st.sizeOf (wat T.held (placeOf s.b))))).1, T.count⟩, (T.st.get (wat T.held (placeOf s.b)) (pickOf s.a (T.st.sizeOf (wat T.held (placeOf s.b))))).2)
    else
      (⟨(T.st.set (wat T.held (placeOf s.b)) (pickOf s.a (T.st.sizeOf (wat T.held (placeOf s.b)))) (if s.kind = 1 then wat T.held (placeOf s.c) else numWord s.a)).1, T.held, T.count⟩,
        (T.st.set (wat T.held (placeOf s.b)) (pickOf s.a (T.st.sizeOf (wat T.held (placeOf s.b)))) (if s.kind = 1 then wat T.held (placeOf s.c) else numWord s.a)).2)
  else if s.kind = 3 then (T.force, 0)
  else if s.kind = 4 then (⟨T.st, T.held.set (placeOf s.c) 1, T.count⟩, 0)
  else (T, 0)

/-- the steps, one by one; with a collection ahead of each, where 'forced' -/
def stepF (forced : Bool) (T : Pl) (s : Stp) : Pl × Int := stepP (if forced then T.force else T) s

def playP (forced : Bool) : Pl → List Stp → Pl × List Int
  | T, [] => (T, [])
  | T, s :: l => ((playP forced (stepF forced T s).1 l).1, (stepF forced T s).2 :: (playP forced (stepF forced T s).1 l).2)

def startP (n : Nat) : Pl := ⟨⟨n, 0, []⟩, List.replicate 8 1, 0⟩

theorem placeOf_lt (c : Int) : placeOf c < 8 := by unfold placeOf; omega

theorem memAlloc_roots (S : St) (t m : Int) (roots : List Int) : (memAlloc S t m roots).roots = none ↔ (memAlloc S t m roots).err ≠ 0 := by
  have he := memAlloc_err S t m roots
  unfold memAlloc at he ⊢
  by_cases h0 : allocErr S t m = 0
  · rw [if_pos h0]; simp
  · rw [if_neg h0] at he ⊢
    by_cases h1 : allocErr S t m ≠ 10
    · rw [if_pos h1]; simpa using h0
    · rw [if_neg h1] at he ⊢
      by_cases h2 : (S.n : Int) < (S.cells roots : Int) + m + 1
      · rw [if_pos h2]; simp
      · rw [if_neg h2] at he ⊢
        rw [if_neg h2] at he
        have ha : askErr t m = 0 := by
          have h := allocErr_ask S t m
          by_cases ha : askErr t m = 0
          · exact ha
          · rw [if_pos ha] at h
            have h10 : askErr t m ≠ 10 := by
              unfold askErr
              split
              · decide
              · split <;> decide
            omega
        rw [if_neg (fun h => h ha)] at he
        simp only at he ⊢
        simp [he]

/-- there is no room, told of what is in reach alone (what MemFull asks) -/
theorem memAlloc_full {S : St} {t m : Int} {roots : List Int} (h0 : 0 ≤ m) (h1 : m ≤ 4096) (he : (memAlloc S t m roots).err = 0 ∨ (memAlloc S t m roots).err = 10) :
    (memAlloc S t m roots).err = 10 ↔ (S.n : Int) < (S.cells roots : Int) + m + 1 := by
  have h := memAlloc_err S t m roots
  have ha : askErr t m = 0 ∨ askErr t m = 1 := by
    unfold askErr
    split
    · exact .inr rfl
    · rw [if_neg (by omega)]; exact .inl rfl
  rcases ha with ha | ha
  · rw [if_neg (fun h => h ha)] at h
    by_cases hf : (S.n : Int) < (S.cells roots : Int) + m + 1
    · rw [if_pos hf] at h; simp [h, hf]
    · rw [if_neg hf] at h; simp [h, hf]
  · rw [if_pos (by omega)] at h
    omega

end Go.Proofs.Ytleoedjjepkhgaa
