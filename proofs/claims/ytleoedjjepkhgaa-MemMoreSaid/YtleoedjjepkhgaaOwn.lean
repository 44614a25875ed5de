import Derived.Test.YtleoedjjepkhgaaFullLaw
/- The laws' own steps: a copy of what came in, without texts. -/
namespace Go.Proofs.Ytleoedjjepkhgaa
open Go.RowKit

def stpC (s : Stp) : List Value := [.int .i64 s.kind, .int .i64 s.a, .int .i64 s.b, .int .i64 s.c]
def stpCs (l : List Stp) : List Value := l.flatMap stpC

theorem stpCs_length (l : List Stp) : (stpCs l).length = l.length * 4 := by
  unfold stpCs
  induction l with
  | nil => rfl
  | cons a l ih => simp only [List.flatMap_cons, List.length_append, ih, stpC, List.length_cons, List.length_nil]; omega

theorem stpCs_get (l : List Stp) : ∀ {k j : Nat} {s : Stp}, l[k]? = some s → j < 4 → (stpCs l)[k * 4 + j]? = (stpC s)[j]? := by
  induction l with
  | nil => intro k j n h; simp at h
  | cons a l ih =>
    intro k j n h hj
    have e : stpCs (a :: l) = stpC a ++ stpCs l := rfl
    have hl : (stpC a).length = 4 := rfl
    rw [e]
    cases k with
    | zero =>
      simp only [List.getElem?_cons_zero, Option.some.injEq] at h
      subst h
      rw [List.getElem?_append_left (by omega)]
      congr 1; omega
    | succ k =>
      simp only [List.getElem?_cons_succ] at h
      rw [List.getElem?_append_right (by omega), ← ih h hj]
      congr 1
      omega

theorem stpCs_each (l : List Stp) {j : Nat} {u : Value} (h : (stpCs l)[j]? = some u) : j / 4 < l.length ∧ (stpC (stpAt l (j / 4)))[j % 4]? = some u := by
  have hj : j < l.length * 4 := by have := (List.getElem?_eq_some_iff.1 h).1; rwa [stpCs_length] at this
  have hk : j / 4 < l.length := by omega
  refine ⟨hk, ?_⟩
  rw [← stpCs_get l (stpAt_get hk) (Nat.mod_lt _ (by omega)), show j / 4 * 4 + j % 4 = j by omega]
  exact h

theorem stpC_int (s : Stp) {j : Nat} {u : Value} (h : (stpC s)[j]? = some u) : ∃ z, u = .int .i64 z := by
  unfold stpC at h
  match j, h with
  | 0, h => exact ⟨_, (Option.some.inj h).symm⟩
  | 1, h => exact ⟨_, (Option.some.inj h).symm⟩
  | 2, h => exact ⟨_, (Option.some.inj h).symm⟩
  | 3, h => exact ⟨_, (Option.some.inj h).symm⟩
  | j + 4, h => simp at h

theorem stpCs_one (l : List Stp) : ∀ u ∈ stpCs l, u.oneCell' = true := by
  intro u hu
  unfold stpCs at hu
  obtain ⟨s, _, hs⟩ := List.mem_flatMap.1 hu
  simp only [stpC, List.mem_cons, List.not_mem_nil, or_false] at hs
  rcases hs with rfl | rfl | rfl | rfl <;> rfl

/-- the cells of a slice that reads as these steps -/
theorem RdS.cells {w : World} {a : Addr} {l : List Stp} (H : RdS w (some a) l) (n : Nat) : ∀ j u, (stpCs (l.take n))[j]? = some u → w.cell? (a.add j) = some u := by
  intro j u hu
  obtain ⟨h1, h2⟩ := stpCs_each _ hu
  have hk : j / 4 < l.length := by rw [List.length_take] at h1; omega
  have hn : j / 4 < n := by rw [List.length_take] at h1; omega
  have hat : stpAt (l.take n) (j / 4) = stpAt l (j / 4) := by
    unfold stpAt
    rw [List.getD_eq_getElem?_getD, List.getD_eq_getElem?_getD, List.getElem?_take, if_pos hn]
  rw [hat] at h2
  obtain ⟨a', ha, _, c0, c1, c2, c3⟩ := H (j / 4) hk
  cases ha
  have hadd : ∀ i, i < 4 → j % 4 = i → a.add j = (a.add (j / 4 * 4)).add i := by
    intro i _ hi
    have : j = j / 4 * 4 + i := by omega
    conv => lhs; rw [this]
    unfold Addr.add
    by_cases h0 : j / 4 * 4 = 0 <;> by_cases h1 : i = 0 <;> simp [h0, h1, Nat.add_assoc]
  have hr : j % 4 < 4 := Nat.mod_lt _ (by omega)
  generalize hi : j % 4 = i at h2 hr
  match i, hr with
  | 0, _ => rw [hadd 0 (by omega) hi]; rw [← Option.some.inj h2]; exact c0
  | 1, _ => rw [hadd 1 (by omega) hi]; rw [← Option.some.inj h2]; exact c1
  | 2, _ => rw [hadd 2 (by omega) hi]; rw [← Option.some.inj h2]; exact c2
  | 3, _ => rw [hadd 3 (by omega) hi]; rw [← Option.some.inj h2]; exact c3

/-- a row of its own reads as its steps -/
theorem rds_own {w : World} {base g n cap : Nat} {l : List Stp} (H : w.ownsRow base 25 4 (.slice (some ⟨g, 0, none⟩) n cap) n (stpCs l)) : RdS w (some ⟨g, 0, none⟩) l := by
  obtain ⟨_, hlt, hc, _⟩ := row_at H
  intro k hk
  have h0 := stpAt_get hk
  have e0 := hc _ _ ((stpCs_get l h0 (j := 0) (by omega)).trans rfl)
  have e1 := hc _ _ ((stpCs_get l h0 (j := 1) (by omega)).trans rfl)
  have e2 := hc _ _ ((stpCs_get l h0 (j := 2) (by omega)).trans rfl)
  have e3 := hc _ _ ((stpCs_get l h0 (j := 3) (by omega)).trans rfl)
  have hadd : (⟨g, 0, none⟩ : Addr).add (k * 4) = ⟨g, k * 4, none⟩ := by unfold Addr.add; split <;> simp_all
  refine ⟨⟨g, 0, none⟩, rfl, hlt, ?_⟩
  rw [hadd]
  exact ⟨e0, e1, e2, e3⟩

/-- a step, its text a block -/
def fineS (s : Stp) : Stp := if s.kind = 0 ∧ s.a = 202 then ⟨0, 0, s.b, s.c⟩ else s

theorem fineS_fine (s : Stp) : (fineS s).fine := by
  unfold fineS Stp.fine
  split
  · simp
  · assumption

theorem fineS_ok {s : Stp} (h : s.ok) : (fineS s).ok := by
  unfold fineS
  split
  · exact ⟨by simp, by simp, h.b, h.c⟩
  · exact h

/-- the first k steps are fine already -/
def ownK (l : List Stp) (k : Nat) : List Stp := (l.take k).map fineS ++ l.drop k

theorem ownK_len (l : List Stp) (k : Nat) : (ownK l k).length = l.length := by simp [ownK]; omega

theorem ownK_at {l : List Stp} {k : Nat} (h : k < l.length) : (ownK l k)[k]? = some (stpAt l k) := by
  have hl : ((l.take k).map fineS).length = k := by rw [List.length_map, List.length_take]; omega
  unfold ownK
  rw [List.getElem?_append_right (by omega), hl, Nat.sub_self, List.getElem?_drop, Nat.add_zero, stpAt_get h]

theorem ownK_succ {l : List Stp} {k : Nat} (h : k < l.length) : ownK l (k + 1) = (ownK l k).set k (fineS (stpAt l k)) := by
  have hl : ((l.take k).map fineS).length = k := by rw [List.length_map, List.length_take]; omega
  unfold ownK
  rw [List.set_append_right _ _ (by omega), hl, Nat.sub_self, List.take_add_one, stpAt_get h]
  have hd : l.drop k = stpAt l k :: l.drop (k + 1) := by
    rw [List.drop_eq_getElem_cons h]
    congr 1
    have := stpAt_get h
    rw [List.getElem?_eq_getElem h] at this
    exact Option.some.inj this
  rw [hd]
  simp

theorem stpCs_set {l : List Stp} {k : Nat} {s : Stp} (h : l[k]? = some s) (z : Int) : (stpCs l).set (k * 4 + 1) (.int .i64 z) = stpCs (l.set k ⟨s.kind, z, s.b, s.c⟩) := by
  induction l generalizing k with
  | nil => simp at h
  | cons a l ih =>
    have e : ∀ x, stpCs (x :: l) = stpC x ++ stpCs l := fun _ => rfl
    cases k with
    | zero =>
      simp only [List.getElem?_cons_zero, Option.some.injEq] at h
      subst h
      rfl
    | succ k =>
      simp only [List.getElem?_cons_succ] at h
      rw [e a, List.set_append_right _ _ (by show (stpC a).length ≤ _; simp [stpC]; omega)]
      show stpC a ++ (stpCs l).set ((k + 1) * 4 + 1 - 4) _ = stpCs (a :: l.set k _)
      rw [show (k + 1) * 4 + 1 - 4 = k * 4 + 1 by omega, ih h]
      rfl

theorem ownK_zero (l : List Stp) : ownK l 0 = l := by simp [ownK]
theorem ownK_all (l : List Stp) : ownK l l.length = l.map fineS := by simp [ownK]

theorem info_stp : (Try.prog.info? 25).map (fun i => (i.zero, i.size, i.bytes)) = some (some (.agg #[.int .i64 0, .int .i64 0, .int .i64 0, .int .i64 0]), 4, 32) := by kernel_rfl

/-- what more is known of a slice that came in -/
structure GivenC (A : Option Addr) (cap n : Nat) : Prop where
  le : n ≤ cap
  max : cap ≤ 9223372036854775807
  nil : A = none → n = 0 ∧ cap = 0

/-! ### a play of steps of the law's own -/

theorem plK_all (forced : Bool) (n : Nat) {l : List Stp} (h : l.length ≤ 80) : plK forced n l (min l.length 80) = (playP forced (startP n) l).1 ∧ erK forced n l (min l.length 80) = errsP forced n l := by
  rw [Nat.min_eq_left h]
  unfold plK erK errsP
  rw [List.take_length]
  exact ⟨rfl, rfl⟩

theorem errsP_length (forced : Bool) (n : Nat) (l : List Stp) : (errsP forced n l).length = l.length := errsP_len (n := n) forced l (startP n)

/-- what a play of the program's Mem leaves -/
def Played (M p : Nat) (w : World) (F : List Nat) (forced : Bool) (n : Nat) (l : List Stp) (e : Ending) (w' : World) : Prop :=
  ∃ ha hc ea ec F', e = .returned (.tuple #[.slice ha 8 hc, .slice ea l.length ec]) ∧ Chg F w w' ∧ IR M p w' F' (playP forced (startP n) l).1.st (playP forced (startP n) l).1.count ∧ (∀ b ∈ F', b ∈ F ∨ w.heap.size ≤ b) ∧
    w'.ownsRow w.heap.size 49 1 (.slice ha 8 hc) 8 (words (playP forced (startP n) l).1.held) ∧ (∀ b, (Value.slice ha 8 hc).ownBlock = some b → b ∉ F') ∧
    w'.ownsRow w.heap.size 46 1 (.slice ea l.length ec) l.length (ints (errsP forced n l)) ∧ Hld (playP forced (startP n) l).1

theorem play_own {M p : Nat} {w : World} {F : List Nat} {n : Nat} (HI : IR M p w F (St.fresh n) 0) (A : Option Addr) (cap : Nat) (l : List Stp) (hR : ∀ w', Chg F w w' → RdS w' A l) (hok : ∀ s ∈ l, s.ok) (hl : l.length ≤ 80) (forced : Bool) :
    Calls Try.prog 9 #[.agg #[.func (.func 28) #[.pointer (some ⟨M, 0, none⟩)] #[], .func (.func 33) #[.pointer (some ⟨M, 0, none⟩)] #[], .func (.func 27) #[.pointer (some ⟨p, 0, none⟩)] #[],
        .func (.func 34) #[.pointer (some ⟨p, 0, none⟩)] #[], .func (.func 26) #[.pointer (some ⟨p, 0, none⟩)] #[]], .slice A l.length cap, .bool forced] w (Played M p w F forced n l) := by
  refine (play_am (real_doer M p) (n := n) HI A cap l hR (fun k hk => hok _ (List.mem_of_getElem? (stpAt_get hk))) (by omega) forced).mono ?_
  rintro e w' ⟨hv, ev, F', rfl, hc, hi, hF, hh, hs, he, hld⟩
  obtain ⟨e1, e2⟩ := plK_all forced n hl
  rw [e1] at hi hh hld
  rw [e2, Nat.min_eq_left hl] at he
  obtain ⟨ha, hc', rfl⟩ := ownsRow_slice hh
  obtain ⟨ea, ec, rfl⟩ := ownsRow_slice he
  exact ⟨ha, hc', ea, ec, F', rfl, hc, hi, hF, hh, hs, he, hld⟩

/-- what stands apart stays apart -/
theorem apart_new {E E' F : List Nat} {B : Nat} (h : ∀ b ∈ F, b ∉ E) (hlt : ∀ b ∈ F, b < B) (hE : ∀ b ∈ E', b ∈ E ∨ B ≤ b) : ∀ b ∈ F, b ∉ E' := by
  intro b hb hm
  rcases hE b hm with h1 | h1
  · exact h b hb h1
  · have := hlt b hb; omega

/-- the row of the law's own steps -/
def OwnR (W w : World) (v : Value) (n : Nat) (l : List Stp) : Prop := Chg [] W w ∧ w.ownsRow W.heap.size 25 4 v n (stpCs l)

theorem ownK_same {l : List Stp} {k : Nat} (h : k < l.length) (hs : ¬ ((stpAt l k).kind = 0 ∧ (stpAt l k).a = 202)) : ownK l (k + 1) = ownK l k := by
  rw [ownK_succ h]
  have hf : fineS (stpAt l k) = stpAt l k := by unfold fineS; rw [if_neg hs]
  rw [hf]
  apply List.ext_getElem?
  intro j
  rw [List.getElem?_set]
  split
  · rename_i e
    subst e
    rw [ownK_at h, if_pos (by rw [ownK_len]; exact h)]
  · rfl

theorem ownK_turn {l : List Stp} {k : Nat} (h : k < l.length) (hs : (stpAt l k).kind = 0 ∧ (stpAt l k).a = 202) : stpCs (ownK l (k + 1)) = (stpCs (ownK l k)).set (k * 4 + 1) (.int .i64 0) := by
  rw [stpCs_set (ownK_at h) 0, ownK_succ h]
  have hf : fineS (stpAt l k) = ⟨(stpAt l k).kind, 0, (stpAt l k).b, (stpAt l k).c⟩ := by unfold fineS; rw [if_pos hs, hs.1]
  rw [hf]

theorem OwnR.cells {W w : World} {a : Option Addr} {c : Nat} {l : List Stp} {k : Nat} (H : OwnR W w (.slice a l.length c) l.length (ownK l k)) (hk : k < l.length) : ∃ g, a = some ⟨g, 0, none⟩ ∧ W.heap.size ≤ g ∧ w.cell? ⟨g, k * 4, none⟩ = some (.int .i64 (stpAt l k).kind) ∧
    w.cell? ⟨g, k * 4 + 1, none⟩ = some (.int .i64 (stpAt l k).a) ∧ w.frozen? ⟨g, k * 4 + 1, none⟩ = false := by
  obtain ⟨g, cap, h1, h2, _, _, h3, h4⟩ := ownsRow_shape H.2 (by omega)
  simp only [Value.slice.injEq] at h1
  have h5 := ownK_at hk
  have e0 := h3 _ _ ((stpCs_get _ h5 (j := 0) (by omega)).trans rfl)
  have e1 := h3 _ _ ((stpCs_get _ h5 (j := 1) (by omega)).trans rfl)
  exact ⟨g, h1.1, h2, e0, e1, h4 _⟩

theorem OwnR.turn {W w : World} {g c : Nat} {l : List Stp} {k : Nat} (H : OwnR W w (.slice (some ⟨g, 0, none⟩) l.length c) l.length (ownK l k)) (hk : k < l.length) (hs : (stpAt l k).kind = 0 ∧ (stpAt l k).a = 202) (hg : W.heap.size ≤ g) :
    OwnR W (w.setCell ⟨g, k * 4 + 1, none⟩ (.int .i64 0)) (.slice (some ⟨g, 0, none⟩) l.length c) l.length (ownK l (k + 1)) := by
  refine ⟨H.1.set _ (.inr hg), ?_⟩
  rw [ownK_turn hk hs]
  exact ownsRow_store H.2 rfl (by rw [stpCs_length, ownK_len]; omega) _

/-- the row reads as its steps -/
theorem OwnR.reads {W w : World} {a : Option Addr} {c n : Nat} {l : List Stp} (H : OwnR W w (.slice a n c) n l) (hn : l.length = n) : RdS w a l := by
  by_cases h0 : n = 0
  · intro k hk; omega
  · obtain ⟨g, cap, h1, _⟩ := ownsRow_shape H.2 (by omega)
    simp only [Value.slice.injEq] at h1
    obtain ⟨rfl, _⟩ := h1
    exact rds_own H.2

end Go.Proofs.Ytleoedjjepkhgaa
