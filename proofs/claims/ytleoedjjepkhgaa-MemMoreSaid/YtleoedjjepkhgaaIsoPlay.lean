import Derived.Test.YtleoedjjepkhgaaIso
/- Layer 4, plain: the play of the graph, and what is seen. -/
namespace Go.Proofs.Ytleoedjjepkhgaa

structure PA where
  nodes : List Nod
  held : List AW

def errA (n : Nat) (G : List Nod) (roots : List AW) (t m : Int) : Int :=
  if askErr t m ≠ 0 then askErr t m else if (n : Int) < (cellsA G roots : Int) + m + 1 then 10 else 0

def aat (l : List AW) (k : Nat) : AW := l.getD k (.inl 1)

def stepA (n : Nat) (T : PA) (s : Stp) : PA × Int :=
  if s.kind = 0 then
    if errA n T.nodes T.held s.a s.b = 0 then (⟨T.nodes ++ [⟨s.a.toNat, List.replicate s.b.toNat (.inl 1)⟩], T.held.set (placeOf s.c) (.inr T.nodes.length)⟩, 0)
    else (T, errA n T.nodes T.held s.a s.b)
  else if s.kind = 1 ∨ s.kind = 2 ∨ s.kind = 5 then
    match aat T.held (placeOf s.b) with
    | .inl _ => (T, 0)
    | .inr i =>
      if (nod T.nodes i).fs.length = 0 then (T, 0)
      else if s.kind = 5 then (⟨T.nodes, T.held.set (placeOf s.c) (aat (nod T.nodes i).fs (pickOf s.a (nod T.nodes i).fs.length).toNat)⟩, 0)
      else (⟨T.nodes.set i ⟨(nod T.nodes i).tag, (nod T.nodes i).fs.set (pickOf s.a (nod T.nodes i).fs.length).toNat (if s.kind = 1 then aat T.held (placeOf s.c) else .inl (numWord s.a))⟩, T.held⟩, 0)
  else if s.kind = 3 then (T, 0)
  else if s.kind = 4 then (⟨T.nodes, T.held.set (placeOf s.c) (.inl 1)⟩, 0)
  else (T, 0)

def playA (n : Nat) : PA → List Stp → PA × List Int
  | T, [] => (T, [])
  | T, s :: l => ((playA n (stepA n T s).1 l).1, (stepA n T s).2 :: (playA n (stepA n T s).1 l).2)

def startA : PA := ⟨[], List.replicate 8 (.inl 1)⟩

/-- a step that lays no text -/
def Stp.fine (s : Stp) : Prop := ¬ (s.kind = 0 ∧ s.a = 202)

theorem numWord_odd (n : Int) : numWord n % 2 = 1 := by unfold numWord w64; omega

section
variable {T : Pl} {A : PA} {f : Nat → Nat}

theorem dec_odd {S : St} {x : Int} (h : x % 2 = 1) : dec S f x = .inl x := by unfold dec; rw [find_odd S x h]

theorem step_rel {n : Nat} (H : Rel T.st T.held A.nodes A.held f) (hn : T.st.n = n) (hl : T.held.length = 8) (s : Stp) (hs : s.fine) :
    ∃ f', Rel (stepP T s).1.st (stepP T s).1.held (stepA n A s).1.nodes (stepA n A s).1.held f' ∧ (stepP T s).2 = (stepA n A s).2 ∧ (stepP T s).1.st.n = n ∧ (stepP T s).1.held.length = 8 := by
  have hpl := placeOf_lt s.b
  have hpc := placeOf_lt s.c
  have hat : ∀ k, k < 8 → aat A.held k = dec T.st f (wat T.held k) ∧ Okw T.st (wat T.held k) := by
    intro k hk
    have h1 := wat_get (xs := T.held) (k := k) (by omega)
    refine ⟨?_, H.okh _ (wat_mem (by omega))⟩
    unfold aat
    rw [H.hld, List.getD_eq_getElem?_getD, List.getElem?_map, h1]
    rfl
  unfold stepP stepA
  by_cases k0 : s.kind = 0
  · rw [if_pos k0, if_pos k0]
    have ha : s.a ≠ 202 := fun h => hs ⟨k0, h⟩
    have hcells : (T.st.cells T.held : Int) = (cellsA A.nodes A.held : Int) := by rw [cells_map H H.okh, ← H.hld]
    have herr : (memAlloc T.st s.a s.b T.held).err = errA n A.nodes A.held s.a s.b := by
      rw [memAlloc_err]
      unfold errA
      rw [hn, hcells]
    have hroots := memAlloc_roots T.st s.a s.b T.held
    by_cases he : errA n A.nodes A.held s.a s.b = 0
    · rw [if_pos he]
      rw [he] at herr
      have hlay : ∀ (S : St) (held : List Int) (g : Nat → Nat), Rel S held A.nodes A.held g → held.length = 8 → S.n = n → allocErr S s.a s.b = 0 →
          ∃ f', Rel (S.lay s.a s.b) (held.set (placeOf s.c) (layWord S s.a s.b)) (A.nodes ++ [⟨s.a.toNat, List.replicate s.b.toNat (.inl 1)⟩]) (A.held.set (placeOf s.c) (.inr A.nodes.length)) f' := by
        intro S held g HR hh hSn hz
        obtain ⟨q1, q2, q3, q4, q5⟩ := allocErr_zero hz
        unfold St.lay layWord
        rw [if_pos hz, if_pos hz]
        obtain ⟨r1, r2, r3⟩ := HR.alloc (t := s.a.toNat) (m := s.b.toNat) (by omega) (by omega)
        have r4 := r1.hold r3 (placeOf s.c)
        rw [r2] at r4
        exact ⟨_, r4⟩
      unfold memAlloc at herr ⊢
      by_cases h0 : allocErr T.st s.a s.b = 0
      · rw [if_pos h0]
        obtain ⟨f', hf'⟩ := hlay T.st T.held f H hl hn h0
        refine ⟨f', hf', rfl, ?_, by simp [hl]⟩
        dsimp only
        unfold St.lay; rw [if_pos h0]; exact hn
      · rw [if_neg h0] at herr ⊢
        by_cases h1 : allocErr T.st s.a s.b ≠ 10
        · rw [if_pos h1] at herr
          exact absurd herr h0
        · rw [if_neg h1] at herr ⊢
          by_cases h2 : (T.st.n : Int) < (T.st.cells T.held : Int) + s.b + 1
          · rw [if_pos h2] at herr; cases herr
          · rw [if_neg h2] at herr ⊢
            have herr' : allocErr (T.st.coll T.held) s.a s.b = 0 := herr
            have hnl : (T.st.now T.held).length = 8 := by unfold St.now; rw [List.length_map, hl]
            obtain ⟨f', hf'⟩ := hlay (T.st.coll T.held) (T.st.now T.held) _ H.coll hnl hn herr'
            refine ⟨f', hf', herr', ?_, by simp [hnl]⟩
            dsimp only
            unfold St.lay; rw [if_pos herr']; exact hn
    · rw [if_neg he]
      have hne : (memAlloc T.st s.a s.b T.held).err ≠ 0 := by rw [herr]; exact he
      rw [hroots.2 hne]
      exact ⟨f, H, herr, hn, hl⟩
  · rw [if_neg k0, if_neg k0]
    by_cases k1 : s.kind = 1 ∨ s.kind = 2 ∨ s.kind = 5
    · rw [if_pos k1, if_pos k1]
      obtain ⟨e1, o1⟩ := hat (placeOf s.b) hpl
      rw [e1]
      rcases okw_cases H.ok o1 with ⟨h1, h⟩ | ⟨i, hi, hx, h⟩
      · have hz : T.st.sizeOf (wat T.held (placeOf s.b)) ≤ 0 := by unfold St.sizeOf; rw [h]; dsimp only; omega
        rw [if_pos hz, dec_odd h1]
        exact ⟨f, H, rfl, hn, hl⟩
      · have hsz : T.st.sizeOf (wat T.held (placeOf s.b)) = ((T.st.blk i).fs.length : Int) := by unfold St.sizeOf; rw [h]
        have hnod := H.nods i hi
        have hdec : dec T.st f (wat T.held (placeOf s.b)) = .inr (f i) := by unfold dec; rw [h]
        have hflen : (nod A.nodes (f i)).fs.length = (T.st.blk i).fs.length := by rw [hnod]; simp
        rw [hdec]
        dsimp only
        rw [hsz, hflen]
        by_cases hz : (T.st.blk i).fs.length = 0
        · rw [if_pos (by omega), if_pos hz]
          exact ⟨f, H, rfl, hn, hl⟩
        · rw [if_neg (by omega), if_neg hz]
          have hj : 0 ≤ pickOf s.a ((T.st.blk i).fs.length : Int) ∧ pickOf s.a ((T.st.blk i).fs.length : Int) < ((T.st.blk i).fs.length : Int) := by
            unfold pickOf
            exact ⟨Int.emod_nonneg _ (by omega), Int.emod_lt_of_pos _ (by omega)⟩
          generalize pickOf s.a ((T.st.blk i).fs.length : Int) = j at hj ⊢
          have hjn : j.toNat < (T.st.blk i).fs.length := by omega
          by_cases k5 : s.kind = 5
          · rw [if_pos k5, if_pos k5]
            have hget : T.st.get (wat T.held (placeOf s.b)) j = (wat (T.st.blk i).fs j.toNat, 0) := by
              unfold St.get
              rw [h]
              dsimp only
              rw [if_neg (by omega)]
            rw [hget]
            have hok := H.okf i hi _ (wat_mem hjn)
            have h4 := H.hold hok (placeOf s.c)
            have h5 : aat (nod A.nodes (f i)).fs j.toNat = dec T.st f (wat (T.st.blk i).fs j.toNat) := by
              unfold aat
              rw [hnod]
              dsimp only
              rw [List.getD_eq_getElem?_getD, List.getElem?_map, wat_get hjn]
              rfl
            rw [h5]
            exact ⟨f, h4, rfl, hn, by simp [hl]⟩
          · rw [if_neg k5, if_neg k5]
            obtain ⟨e2, o2⟩ := hat (placeOf s.c) hpc
            have hv : Okw T.st (if s.kind = 1 then wat T.held (placeOf s.c) else numWord s.a) ∧ (if s.kind = 1 then aat A.held (placeOf s.c) else .inl (numWord s.a)) = dec T.st f (if s.kind = 1 then wat T.held (placeOf s.c) else numWord s.a) := by
              by_cases kk : s.kind = 1
              · rw [if_pos kk, if_pos kk]; exact ⟨o2, e2⟩
              · rw [if_neg kk, if_neg kk]; exact ⟨.inl (numWord_odd _), (dec_odd (numWord_odd _)).symm⟩
            rw [hv.2]
            generalize (if s.kind = 1 then wat T.held (placeOf s.c) else numWord s.a) = v at hv ⊢
            have hset : T.st.set (wat T.held (placeOf s.b)) j v = (T.st.setF i j.toNat v, 0) := by
              unfold St.set
              rw [h]
              dsimp only
              rw [if_neg (by omega)]
            rw [hset]
            exact ⟨f, H.setF hi hv.1, rfl, hn, hl⟩
    · rw [if_neg k1, if_neg k1]
      by_cases k3 : s.kind = 3
      · rw [if_pos k3, if_pos k3]
        exact ⟨_, H.coll, rfl, hn, by unfold Pl.force St.now; rw [List.length_map, hl]⟩
      · rw [if_neg k3, if_neg k3]
        by_cases k4 : s.kind = 4
        · rw [if_pos k4, if_pos k4]
          have h4 := H.hold (x := 1) (.inl (by decide)) (placeOf s.c)
          rw [dec_odd (by decide)] at h4
          exact ⟨f, h4, rfl, hn, by simp [hl]⟩
        · rw [if_neg k4, if_neg k4]
          exact ⟨f, H, rfl, hn, hl⟩

end

theorem play_rel {n : Nat} (forced : Bool) : ∀ (l : List Stp) (T : Pl) (A : PA) (f : Nat → Nat), Rel T.st T.held A.nodes A.held f → T.st.n = n → T.held.length = 8 → (∀ s ∈ l, s.fine) →
    ∃ f', Rel (playP forced T l).1.st (playP forced T l).1.held (playA n A l).1.nodes (playA n A l).1.held f' ∧ (playP forced T l).2 = (playA n A l).2
  | [], T, A, f, H, _, _, _ => ⟨f, H, rfl⟩
  | s :: l, T, A, f, H, hn, hl, hs => by
    obtain ⟨g, HG, hgn, hgl⟩ : ∃ g, Rel (if forced then T.force else T).st (if forced then T.force else T).held A.nodes A.held g ∧ (if forced then T.force else T).st.n = n ∧ (if forced then T.force else T).held.length = 8 := by
      cases forced with
      | false => exact ⟨f, H, hn, hl⟩
      | true => exact ⟨_, H.coll, hn, by show (T.st.now T.held).length = 8; unfold St.now; rw [List.length_map, hl]⟩
    obtain ⟨f1, H1, e1, n1, l1⟩ := step_rel (T := if forced then T.force else T) HG hgn hgl s (hs s (by simp))
    obtain ⟨f2, H2, e2⟩ := play_rel forced l (stepF forced T s).1 (stepA n A s).1 f1 H1 n1 l1 (fun x hx => hs x (by simp [hx]))
    refine ⟨f2, H2, ?_⟩
    show (stepF forced T s).2 :: _ = (stepA n A s).2 :: _
    rw [e2]
    congr 1

theorem start_rel {n : Nat} (h2 : 2 ≤ n) (h3 : n ≤ 32768) : Rel (startP n).st (startP n).held startA.nodes startA.held id := by
  refine ⟨⟨h2, h3, Nat.zero_le _, Nat.zero_le _⟩, ?_, ?_, ?_, ?_, ?_, ?_, ?_⟩
  · intro i j hi; exact absurd hi (by simp [startP])
  · intro i hi; exact absurd hi (by simp [startP])
  · intro i hi; exact absurd hi (by simp [startP])
  · intro i hi; exact absurd hi (by simp [startP])
  · intro i hi; exact absurd hi (by simp [startP])
  · unfold startA startP
    dsimp only
    rw [List.map_replicate, dec_odd (by decide)]
  · intro x hx
    have := List.eq_of_mem_replicate hx
    subst this
    exact .inl (by decide)

/-! ### with more cells -/

theorem step_more {n m : Nat} (h : n ≤ m) (A : PA) (s : Stp) (he : (stepA n A s).2 ≠ 10) : stepA m A s = stepA n A s := by
  unfold stepA at he ⊢
  by_cases k0 : s.kind = 0
  · rw [if_pos k0] at he
    rw [if_pos k0, if_pos k0]
    have : errA m A.nodes A.held s.a s.b = errA n A.nodes A.held s.a s.b := by
      have hz : errA n A.nodes A.held s.a s.b ≠ 10 := by
        by_cases hh : errA n A.nodes A.held s.a s.b = 0
        · omega
        · rw [if_neg hh] at he; exact he
      unfold errA at hz ⊢
      by_cases ha : askErr s.a s.b ≠ 0
      · rw [if_pos ha, if_pos ha]
      · rw [if_neg ha] at hz
        rw [if_neg ha, if_neg ha]
        by_cases hf : (n : Int) < (cellsA A.nodes A.held : Int) + s.b + 1
        · rw [if_pos hf] at hz; exact absurd rfl hz
        · rw [if_neg hf, if_neg (by omega)]
    rw [this]
  · rw [if_neg k0, if_neg k0]

theorem play_more {n m : Nat} (h : n ≤ m) : ∀ (l : List Stp) (A : PA), (∀ e ∈ (playA n A l).2, e ≠ 10) → playA m A l = playA n A l
  | [], _, _ => rfl
  | s :: l, A, he => by
    have h1 := step_more h A s (he _ (by simp [playA]))
    have h2 := play_more h l (stepA n A s).1 (fun e hm => he e (by simp [playA, hm]))
    show ((playA m (stepA m A s).1 l).1, (stepA m A s).2 :: (playA m (stepA m A s).1 l).2) = _
    rw [h1, h2]
    rfl

theorem play_len (n : Nat) : ∀ (l : List Stp) (A : PA), (playA n A l).2.length = l.length
  | [], _ => rfl
  | s :: l, A => by show (_ :: (playA n (stepA n A s).1 l).2).length = _; rw [List.length_cons, List.length_cons, play_len n l]

/-- as long as there was room, what went wrong is alike -/
theorem play_pre {n m : Nat} (h : n ≤ m) : ∀ (l : List Stp) (A : PA) (i : Nat), i < l.length → (∀ j, j ≤ i → wat (playA n A l).2 j ≠ 10) → wat (playA m A l).2 i = wat (playA n A l).2 i
  | s :: l, A, i, hi, he => by
    have h0 : (stepA n A s).2 ≠ 10 := by have := he 0 (by omega); exact this
    have h1 := step_more h A s h0
    show wat ((stepA m A s).2 :: (playA m (stepA m A s).1 l).2) i = wat ((stepA n A s).2 :: (playA n (stepA n A s).1 l).2) i
    rw [h1]
    cases i with
    | zero => rfl
    | succ i => exact play_pre h l (stepA n A s).1 i (by simp at hi; omega) (fun j hj => he (j + 1) (by omega))

/-! ### what is seen -/

def seeS (S : St) (t : List Nat × List Int) (x : Int) : List Nat × List Int := match S.find x with
  | none => (t.1, t.2 ++ [-1, num x])
  | some p => (meet S t.1 x, t.2 ++ [((meet S t.1 x).idxOf p.1 : Int), (p.2 : Int)])

def seenS (S : St) (roots : List Int) : Nat → List Nat × List Int
  | 0 => roots.foldl (seeS S) ([], [])
  | k + 1 =>
    match (seenS S roots k).1[k]? with
    | none => seenS S roots k
    | some i => (S.blk i).fs.foldl (seeS S) ((seenS S roots k).1, (seenS S roots k).2 ++ [((S.blk i).tag : Int), ((S.blk i).fs.length : Int)])

def seeA (t : List Nat × List Int) : AW → List Nat × List Int
  | .inl x => (t.1, t.2 ++ [-1, num x])
  | .inr j => (meetA t.1 (.inr j), t.2 ++ [((meetA t.1 (.inr j)).idxOf j : Int), 0])

def seenA (G : List Nod) (roots : List AW) : Nat → List Nat × List Int
  | 0 => roots.foldl seeA ([], [])
  | k + 1 =>
    match (seenA G roots k).1[k]? with
    | none => seenA G roots k
    | some i => (nod G i).fs.foldl seeA ((seenA G roots k).1, (seenA G roots k).2 ++ [((nod G i).tag : Int), ((nod G i).fs.length : Int)])

theorem good_see {S : St} {t : List Nat × List Int} (h : Good S t.1) (x : Int) : Good S (seeS S t x).1 := by
  unfold seeS
  cases hf : S.find x with
  | none => exact h
  | some p => exact good_meet h x

theorem good_sees {S : St} : ∀ (ws : List Int) {t : List Nat × List Int}, Good S t.1 → Good S (ws.foldl (seeS S) t).1
  | [], _, h => h
  | x :: ws, _, h => good_sees ws (good_see h x)

theorem good_seen (S : St) (roots : List Int) (k : Nat) : Good S (seenS S roots k).1 := by
  induction k with
  | zero => exact good_sees roots ⟨List.nodup_nil, by simp⟩
  | succ k ih =>
    unfold seenS
    split
    · exact ih
    · exact good_sees _ ih

theorem seen_stop (S : St) (roots : List Int) {k : Nat} (h : (seenS S roots k).1.length ≤ k) : ∀ m, k ≤ m → seenS S roots m = seenS S roots k := by
  intro m hm
  induction m with
  | zero => obtain rfl : k = 0 := by omega
            rfl
  | succ m ih =>
    by_cases e : k = m + 1
    · subst e; rfl
    · have ih' := ih (by omega)
      show (match (seenS S roots m).1[m]? with | none => seenS S roots m | some i => (S.blk i).fs.foldl (seeS S) ((seenS S roots m).1, (seenS S roots m).2 ++ [((S.blk i).tag : Int), ((S.blk i).fs.length : Int)])) = _
      rw [ih', List.getElem?_eq_none (by omega)]

def St.seen (S : St) (roots : List Int) : List Int := (seenS S roots S.L.length).2

theorem seen_at (S : St) (roots : List Int) {k : Nat} (h : (seenS S roots k).1.length ≤ k) : S.seen roots = (seenS S roots k).2 := by
  unfold St.seen
  have h1 := (good_seen S roots S.L.length).length_le
  rcases Nat.le_total k S.L.length with h2 | h2
  · rw [seen_stop S roots h _ h2]
  · rw [seen_stop S roots h1 _ h2]

section
variable {S : St} {held : List Int} {G : List Nod} {gh : List AW} {f : Nat → Nat}

theorem idx_map (H : Rel S held G gh f) : ∀ {l : List Nat}, (∀ i ∈ l, i < S.L.length) → ∀ {i : Nat}, i < S.L.length → (l.map f).idxOf (f i) = l.idxOf i
  | [], _, _, _ => rfl
  | j :: l, hl, i, hi => by
    rw [List.map_cons, List.idxOf_cons, List.idxOf_cons, idx_map H (fun x hx => hl x (by simp [hx])) hi]
    by_cases e : j = i
    · subst e; simp
    · have : f j ≠ f i := fun h => e (H.inj j i (hl j (by simp)) hi h)
      rw [beq_eq_false_iff_ne.2 e, beq_eq_false_iff_ne.2 this]

theorem see_map (H : Rel S held G gh f) {t : List Nat × List Int} (ht : Good S t.1) {x : Int} (hx : Okw S x) : ((seeS S t x).1.map f, (seeS S t x).2) = seeA (t.1.map f, t.2) (dec S f x) := by
  have hm := meet_map H ht hx
  have hg := good_meet ht x
  unfold seeS
  unfold dec at hm ⊢
  rcases okw_cases H.ok hx with ⟨_, h⟩ | ⟨i, hi, _, h⟩
  · rw [h]; rfl
  · rw [h] at hm ⊢
    dsimp only at hm ⊢
    unfold seeA
    dsimp only
    rw [← hm, idx_map H hg.lt hi]
    rfl

theorem sees_map (H : Rel S held G gh f) : ∀ (ws : List Int) {t : List Nat × List Int}, Good S t.1 → (∀ x ∈ ws, Okw S x) → ((ws.foldl (seeS S) t).1.map f, (ws.foldl (seeS S) t).2) = (ws.map (dec S f)).foldl seeA (t.1.map f, t.2)
  | [], _, _, _ => rfl
  | x :: ws, t, ht, hx => by
    have h1 := see_map H ht (hx x (by simp))
    have h2 := sees_map H ws (good_see ht x) (fun y hy => hx y (by simp [hy]))
    simp only [List.foldl_cons, List.map_cons]
    rw [h2, h1]

theorem seen_map (H : Rel S held G gh f) {roots : List Int} (hr : ∀ x ∈ roots, Okw S x) (k : Nat) : ((seenS S roots k).1.map f, (seenS S roots k).2) = seenA G (roots.map (dec S f)) k := by
  induction k with
  | zero => exact sees_map H roots ⟨List.nodup_nil, by simp⟩ hr
  | succ k ih =>
    have hg := good_seen S roots k
    show ((match (seenS S roots k).1[k]? with | none => seenS S roots k | some i => (S.blk i).fs.foldl (seeS S) ((seenS S roots k).1, (seenS S roots k).2 ++ [((S.blk i).tag : Int), ((S.blk i).fs.length : Int)])).1.map f,
      (match (seenS S roots k).1[k]? with | none => seenS S roots k | some i => (S.blk i).fs.foldl (seeS S) ((seenS S roots k).1, (seenS S roots k).2 ++ [((S.blk i).tag : Int), ((S.blk i).fs.length : Int)])).2) =
      (match (seenA G (roots.map (dec S f)) k).1[k]? with | none => seenA G (roots.map (dec S f)) k | some i => (nod G i).fs.foldl seeA ((seenA G (roots.map (dec S f)) k).1, (seenA G (roots.map (dec S f)) k).2 ++ [((nod G i).tag : Int), ((nod G i).fs.length : Int)]))
    rw [← ih]
    dsimp only
    rw [List.getElem?_map]
    cases hx : (seenS S roots k).1[k]? with
    | none => rfl
    | some i =>
      have hi : i < S.L.length := hg.lt i (List.mem_of_getElem? hx)
      dsimp only [Option.map]
      rw [H.nods i hi]
      dsimp only
      rw [List.length_map]
      exact sees_map H (S.blk i).fs (t := ((seenS S roots k).1, (seenS S roots k).2 ++ [((S.blk i).tag : Int), ((S.blk i).fs.length : Int)])) hg (H.okf i hi)

theorem seen_graph (H : Rel S held G gh f) : S.seen held = (seenA G gh G.length).2 := by
  have h1 := (good_seen S held S.L.length).length_le
  have h2 := seen_stop S held h1 _ (len_le H)
  unfold St.seen
  rw [← h2, H.hld, ← seen_map H H.okh]
end

/-! ### the laws' heart -/

def errsP (forced : Bool) (n : Nat) (l : List Stp) : List Int := (playP forced (startP n) l).2
def seenP (forced : Bool) (n : Nat) (l : List Stp) : List Int := (playP forced (startP n) l).1.st.seen (playP forced (startP n) l).1.held

theorem play_is {n : Nat} (h2 : 2 ≤ n) (h3 : n ≤ 32768) (forced : Bool) {l : List Stp} (hl : ∀ s ∈ l, s.fine) :
    errsP forced n l = (playA n startA l).2 ∧ seenP forced n l = (seenA (playA n startA l).1.nodes (playA n startA l).1.held (playA n startA l).1.nodes.length).2 := by
  obtain ⟨f, H, he⟩ := play_rel (n := n) forced l (startP n) startA id (start_rel h2 h3) rfl (by simp [startP]) hl
  exact ⟨he, seen_graph H⟩

/-- when collections come changes nothing -/
theorem forced_same {n : Nat} (h2 : 2 ≤ n) (h3 : n ≤ 32768) {l : List Stp} (hl : ∀ s ∈ l, s.fine) : errsP true n l = errsP false n l ∧ seenP true n l = seenP false n l := by
  have h1 := play_is h2 h3 true hl
  have h2 := play_is h2 h3 false hl
  exact ⟨h1.1.trans h2.1.symm, h1.2.trans h2.2.symm⟩

/-- with more cells all is alike, where there was room -/
theorem more_same {n m : Nat} (h2 : 2 ≤ n) (hm : n ≤ m) (h3 : m ≤ 32768) {l : List Stp} (hl : ∀ s ∈ l, s.fine) (he : ∀ e ∈ errsP false n l, e ≠ 10) : errsP false m l = errsP false n l ∧ seenP false m l = seenP false n l := by
  have h4 := play_is h2 (by omega) false hl
  have h5 := play_is (n := m) (by omega) h3 false hl
  rw [h4.1] at he
  have h6 := play_more hm l startA he
  rw [h6] at h5
  exact ⟨h5.1.trans h4.1.symm, h5.2.trans h4.2.symm⟩

theorem more_pre {n m : Nat} (h2 : 2 ≤ n) (hm : n ≤ m) (h3 : m ≤ 32768) {l : List Stp} (hl : ∀ s ∈ l, s.fine) {i : Nat} (hi : i < l.length) (he : ∀ j, j ≤ i → wat (errsP false n l) j ≠ 10) : wat (errsP false m l) i = wat (errsP false n l) i := by
  have h4 := play_is h2 (by omega) false hl
  have h5 := play_is (n := m) (by omega) h3 false hl
  rw [h4.1] at he ⊢
  rw [h5.1]
  exact play_pre hm l startA i hi he

theorem errsP_len {n : Nat} (forced : Bool) : ∀ (l : List Stp) (T : Pl), (playP forced T l).2.length = l.length
  | [], _ => rfl
  | s :: l, T => by show (_ :: (playP forced (stepF forced T s).1 l).2).length = _; rw [List.length_cons, List.length_cons, errsP_len (n := n) forced l]

end Go.Proofs.Ytleoedjjepkhgaa
