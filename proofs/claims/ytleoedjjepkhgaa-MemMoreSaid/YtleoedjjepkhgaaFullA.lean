import Derived.Test.YtleoedjjepkhgaaDoReal
import Derived.Test.YtleoedjjepkhgaaPlayW
/- MemFull's own alloc, and who plays with it. -/
namespace Go.Proofs.Ytleoedjjepkhgaa
open Go.RowKit

/-- the boxes that the closure captured -/
structure Boxes (w : World) (M bm bp bo bn n : Nat) : Prop where
  km : w.heap[bm]? = some (.cells #[.pointer (some ⟨M, 0, none⟩)] 26 (0, 0))
  kp : w.heap[bp]? = some (.cells #[.func (.func 28) #[.pointer (some ⟨M, 0, none⟩)] #[]] 32 (0, 0))
  ko : w.heap[bo]? = some (.cells #[.bool true] 4 (0, 0))
  kn : w.heap[bn]? = some (.cells #[.int .i64 (n : Int)] 3 (0, 0))

/-- the program's Mem, and the boxes -/
def IX (M p bm bp bo bn n : Nat) : MemI := fun w F S k => ∃ F0, IR M p w F0 S k ∧ F = bm :: bp :: bo :: bn :: F0 ∧ Boxes w M bm bp bo bn n ∧ S.n = n ∧ ∀ b ∈ F0, b ≠ bm ∧ b ≠ bp ∧ b ≠ bo ∧ b ≠ bn

section
variable {M p bm bp bo bn n : Nat} {w w' : World} {F G : List Nat} {S : St} {k : Nat}

theorem Boxes.chg (H : Boxes w M bm bp bo bn n) (hc : Chg G w w') (h1 : bm ∉ G) (h2 : bp ∉ G) (h3 : bo ∉ G) (h4 : bn ∉ G) : Boxes w' M bm bp bo bn n :=
  ⟨hc.get H.km h1, hc.get H.kp h2, hc.get H.ko h3, hc.get H.kn h4⟩

theorem IX.keep (H : IX M p bm bp bo bn n w F S k) (hc : Chg G w w') (hG : ∀ b ∈ F, b ∉ G) : IX M p bm bp bo bn n w' F S k := by
  obtain ⟨F0, h1, rfl, h2, h3, h4⟩ := H
  exact ⟨F0, h1.keep hc (fun b hb => hG b (by simp [hb])), rfl, h2.chg hc (hG bm (by simp)) (hG bp (by simp)) (hG bo (by simp)) (hG bn (by simp)), h3, h4⟩

theorem IX.lts (H : IX M p bm bp bo bn n w F S k) : ∀ b ∈ F, b < w.heap.size := by
  obtain ⟨F0, h1, rfl, h2, h3, h4⟩ := H
  intro b hb
  simp only [List.mem_cons] at hb
  rcases hb with rfl | rfl | rfl | rfl | hb
  · exact lt_of_heap h2.km
  · exact lt_of_heap h2.kp
  · exact lt_of_heap h2.ko
  · exact lt_of_heap h2.kn
  · exact h1.lts b hb

/-- the Mem has turned -/
theorem IX.turn {F0 F0' : List Nat} {S' : St} {k' : Nat} (hb : Boxes w M bm bp bo bn n) (h4 : ∀ b ∈ F0, b ≠ bm ∧ b ≠ bp ∧ b ≠ bo ∧ b ≠ bn) (hc : Chg F0 w w') (hi : IR M p w' F0' S' k') (hF : ∀ b ∈ F0', b ∈ F0 ∨ w.heap.size ≤ b) (hn : S'.n = n) :
    IX M p bm bp bo bn n w' (bm :: bp :: bo :: bn :: F0') S' k' ∧ ∀ b ∈ bm :: bp :: bo :: bn :: F0', b ∈ bm :: bp :: bo :: bn :: F0 ∨ w.heap.size ≤ b := by
  have l1 := lt_of_heap hb.km
  have l2 := lt_of_heap hb.kp
  have l3 := lt_of_heap hb.ko
  have l4 := lt_of_heap hb.kn
  refine ⟨⟨F0', hi, rfl, hb.chg hc (fun h => (h4 _ h).1 rfl) (fun h => (h4 _ h).2.1 rfl) (fun h => (h4 _ h).2.2.1 rfl) (fun h => (h4 _ h).2.2.2 rfl), hn, fun b hb' => ?_⟩, fun b hb' => ?_⟩
  · rcases hF b hb' with h | h
    · exact h4 b h
    · omega
  · simp only [List.mem_cons] at hb' ⊢
    rcases hb' with h | h | h | h | h
    · simp [h]
    · simp [h]
    · simp [h]
    · simp [h]
    · rcases hF b h with h | h
      · simp [h]
      · exact .inr h

theorem memAlloc_n (S : St) (t m : Int) (roots : List Int) : (memAlloc S t m roots).st.n = S.n := by
  unfold memAlloc
  split
  · unfold St.lay; split <;> rfl
  · split
    · rfl
    · split
      · rfl
      · dsimp only
        unfold St.lay; split <;> rfl

theorem IX.note (H : IX M p bm bp bo bn n w F S k) : IX M p bm bp bo bn n (w.setCell ⟨bo, 0, none⟩ (.bool true)) F S k := by
  obtain ⟨F0, h1, rfl, h2, h3, h4⟩ := H
  have hc : Chg [bo] w (w.setCell ⟨bo, 0, none⟩ (.bool true)) := (Chg.refl [bo] w).set _ (.inl (by simp))
  refine ⟨F0, h1.keep hc (fun b hb hm => ?_), rfl, ⟨?_, ?_, heap_set h2.ko _, ?_⟩, h3, h4⟩
  · simp only [List.mem_cons, List.not_mem_nil, or_false] at hm
    exact (h4 b hb).2.2.1 hm
  · rw [heap_set_ne _ (row_ne h2.km h2.ko (by decide))]; exact h2.km
  · rw [heap_set_ne _ (row_ne h2.kp h2.ko (by decide))]; exact h2.kp
  · rw [heap_set_ne _ (row_ne h2.kn h2.ko (by decide))]; exact h2.kn

theorem full_post {w w1 w2 : World} {F0 F' : List Nat} {t m : Int} {roots : List Int} {a' : Option Addr} {n' c' : Nat} (hc1 : Chg [] w w1) (hc2 : Chg F0 w1 w2)
    (hi : IX M p bm bp bo bn n w2 (bm :: bp :: bo :: bn :: F') (memAlloc S t m roots).st (k + (memAlloc S t m roots).more)) (hF : ∀ b ∈ bm :: bp :: bo :: bn :: F', b ∈ bm :: bp :: bo :: bn :: F0 ∨ w1.heap.size ≤ b)
    (hrow : ∀ l, (memAlloc S t m roots).roots = some l → w2.ownsRow w1.heap.size 49 1 (.slice a' n' c') l.length (words l)) (hsep : ∀ b, (Value.slice a' n' c').ownBlock = some b → b ∉ F' ∧ w1.heap.size ≤ b)
    (hb : Boxes w M bm bp bo bn n) :
    LaidPost (IX M p bm bp bo bn n) (bm :: bp :: bo :: bn :: F0) w S k t m roots (.returned (.tuple #[.int .u64 (memAlloc S t m roots).word, .slice a' n' c', .int .i64 (memAlloc S t m roots).err])) w2 := by
  have hs := hc1.size
  refine ⟨a', n', c', _, rfl, (hc1.mono (by simp)).trans (hc2.mono (by intro b hb; simp [hb])), hi, fun b hb => (hF b hb).imp id (fun h => by omega), fun l hl => own_low (hrow l hl) hs, fun b hb2 => ?_⟩
  obtain ⟨h1, h2⟩ := hsep b hb2
  have l1 := lt_of_heap hb.km
  have l2 := lt_of_heap hb.kp
  have l3 := lt_of_heap hb.ko
  have l4 := lt_of_heap hb.kn
  refine ⟨fun hm => ?_, by omega⟩
  simp only [List.mem_cons] at hm
  rcases hm with h | h | h | h | h
  · omega
  · omega
  · omega
  · omega
  · exact h1 h

theorem full_post_set {w w1 w2 : World} {F0 F' : List Nat} {t m : Int} {roots : List Int} {a' : Option Addr} {n' c' : Nat} (hc1 : Chg [] w w1) (hc2 : Chg F0 w1 w2)
    (hi : IX M p bm bp bo bn n w2 (bm :: bp :: bo :: bn :: F') (memAlloc S t m roots).st (k + (memAlloc S t m roots).more)) (hF : ∀ b ∈ bm :: bp :: bo :: bn :: F', b ∈ bm :: bp :: bo :: bn :: F0 ∨ w1.heap.size ≤ b)
    (hrow : ∀ l, (memAlloc S t m roots).roots = some l → w2.ownsRow w1.heap.size 49 1 (.slice a' n' c') l.length (words l)) (hsep : ∀ b, (Value.slice a' n' c').ownBlock = some b → b ∉ F' ∧ w1.heap.size ≤ b)
    (hb : Boxes w M bm bp bo bn n) :
    LaidPost (IX M p bm bp bo bn n) (bm :: bp :: bo :: bn :: F0) w S k t m roots (.returned (.tuple #[.int .u64 (memAlloc S t m roots).word, .slice a' n' c', .int .i64 (memAlloc S t m roots).err])) (w2.setCell ⟨bo, 0, none⟩ (.bool true)) := by
  obtain ⟨a2, n2, c2, F2, he, h1, h2, h3, h4, h5⟩ := full_post hc1 hc2 hi hF hrow hsep hb
  obtain ⟨_, _, _, hbx2, _, _⟩ := hi
  cases he
  exact ⟨_, _, _, F2, rfl, h1.set _ (.inl (by simp)), h2.note, h3, fun l hl => ownsRow_set (h4 l hl) (own_ne' (h4 l hl) hbx2.ko (by decide)) _, h5⟩

set_option maxHeartbeats 4000000 in
set_option maxRecDepth 100000 in
theorem fullA_am (t m : Int) (a : Option Addr) (cap : Nat) (roots : List Int) (HI : IX M p bm bp bo bn n w F S k) (hk : k < 1000) (ht : -9223372036854775808 ≤ t ∧ t ≤ 9223372036854775807) (hm : -9223372036854775808 ≤ m ∧ m ≤ 9223372036854775807)
    (hr : w.ownsRow 0 49 1 (.slice a roots.length cap) roots.length (words roots)) (hrl : roots.length ≤ 1000000) (hw : ∀ x ∈ roots, Wd x) (hsep : ∀ b, (Value.slice a roots.length cap).ownBlock = some b → b ∉ F) :
    Calls Try.prog 15 #[.int .i64 t, .int .i64 m, .slice a roots.length cap, .pointer (some ⟨bm, 0, none⟩), .pointer (some ⟨bp, 0, none⟩), .pointer (some ⟨bo, 0, none⟩), .pointer (some ⟨bn, 0, none⟩)] w (LaidPost (IX M p bm bp bo bn n) F w S k t m roots) := by
  obtain ⟨F0, hir, rfl, hbx, hn, h4⟩ := HI
  obtain ⟨h, c, sv, cs, hA, hM, hF0⟩ := hir
  have HRE := Lib.hid (reach_am hA _ roots hr hw hrl)
  have HAR := Lib.hid (marena_am hM)
  have HAL := Lib.hid (fun (w1 : World) (hc : Chg [] w w1) => malloc_am t m a cap roots (IR.keep (⟨h, c, sv, cs, hA, hM, hF0⟩ : IR M p w F0 S k) hc (by simp)) hk ht (ownsRow_chg hr hc (by simp)) hrl hw (fun b hb hm => hsep b hb (by simp [hm])))
  have HFU := Lib.hid (fun (h0 : 0 ≤ m) (h1 : m ≤ 4096) he => memAlloc_full (S := S) (t := t) (m := m) (roots := roots) h0 h1 he)
  have HBX := Lib.hid hbx
  have HN4 := Lib.hid h4
  have kbm := cell_at hbx.km (o := 0) rfl
  have kbp := cell_at hbx.kp (o := 0) rfl
  have hcl : (S.cells roots : Int) ≤ 32768 := by
    have h1 := cells_le_span (S := S) roots
    have h2 := hA.ok.fit
    have h3 := hA.ok.n3
    omega
  have HMN := Lib.hid (memAlloc_n S t m roots)
  clear hA hM hF0 hr hw hbx h4 hsep
  -- what is left behind the inner Alloc, whatever is noted
  have HEND := Lib.hid (fun (w1 w2 : World) (hc1 : Chg [] w w1) (F' : List Nat) (hc2 : Chg F0 w1 w2) (hi : IR M p w2 F' (memAlloc S t m roots).st (k + (memAlloc S t m roots).more)) (hF : ∀ b ∈ F', b ∈ F0 ∨ w1.heap.size ≤ b) =>
    IX.turn (HBX.out.chg hc1 (by simp) (by simp) (by simp) (by simp)) HN4.out hc2 hi hF (by rw [HMN.out]; exact hn))
  go_enter Try.func15, Try.ntmps15
  go_wp2_with (go_at_call 14; refine HAR.out.mono ?_; rintro e w' ⟨rfl, hw'⟩; obtain rfl := hw'.symm)
  refine HRE.out.mono ?_
  rintro e w1 ⟨lv, rfl, hc1, hl1⟩
  obtain ⟨la, lc, rfl⟩ := ownsRow_slice hl1
  have HC1 := Lib.hid hc1
  have HAL1 := Lib.hid (HAL.out w1 hc1)
  have hbx1 := HBX.out.chg hc1 (by simp) (by simp) (by simp) (by simp)
  have kbp1 := cell_at hbx1.kp (o := 0) rfl
  clear hc1 hl1 HRE HAR HAL hbx1 kbp kbm
  go_wp2_with fail
  refine HAL1.out.mono ?_
  rintro e w2 ⟨a', n', c', F', rfl, hc2, hi2, hF2, hrow2, hsep2⟩
  have hbx2 := HEND.out w1 w2 HC1.out F' hc2 hi2 hF2
  have hsz1 := HC1.out.size
  have HQ1 := Lib.hid (full_post (k := k) (a' := a') (n' := n') (c' := c') HC1.out hc2 hbx2.1 hbx2.2 hrow2 hsep2 HBX.out)
  have HQ2 := Lib.hid (full_post_set (k := k) (a' := a') (n' := n') (c' := c') HC1.out hc2 hbx2.1 hbx2.2 hrow2 hsep2 HBX.out)
  obtain ⟨_, _, _, hbx, hn2, _⟩ := hbx2.1
  have ko2 := cell_at hbx.ko (o := 0) rfl
  have zo2 := free_at hbx.ko 0
  have kn2 := cell_at hbx.kn (o := 0) rfl
  have HFU2 := Lib.hid (fun (h0 : 0 ≤ m) (h1 : m ≤ 4096) he => by have := HFU.out h0 h1 he; rw [hn] at this; exact this)
  clear hc2 hi2 hF2 hrow2 hsep2 hbx2 hbx hn2 HEND HAL1 HFU kbp1
  generalize (memAlloc S t m roots).err = er at HFU2 HQ1 HQ2 ⊢
  generalize (memAlloc S t m roots).word = wo at HQ1 HQ2 ⊢
  by_cases h0 : 0 ≤ m
  · have d0 : decide (0 ≤ m) = true := decide_eq_true h0
    by_cases h1 : m ≤ 4096
    · have d1 : decide (m ≤ 4096) = true := decide_eq_true h1
      have hw1 : IntKind.i64.wrap ((S.cells roots : Int) + m) = (S.cells roots : Int) + m := IntWalk.i64_in _ (by omega)
      have hw2 : IntKind.i64.wrap ((S.cells roots : Int) + m + 1) = (S.cells roots : Int) + m + 1 := IntWalk.i64_in _ (by omega)
      by_cases e0 : er = 0
      · have hF := HFU2.out h0 h1 (.inl e0)
        have hd : decide ((n : Int) < (S.cells roots : Int) + m + 1) = false := decide_eq_false (fun h => by have := hF.2 h; omega)
        have b0 : (er == 0) = true := beq_iff_eq.2 e0
        have b1 : (er == 10) = false := beq_eq_false_iff_ne.2 (by omega)
        have bb : (false == false) = true := rfl
        clear e0 hF
        go_wp2_with fail
        go_ret3
        exact HQ2.out
      · have b0 : (er == 0) = false := beq_eq_false_iff_ne.2 e0
        by_cases e1 : er = 10
        · have hF := HFU2.out h0 h1 (.inr e1)
          have hd : decide ((n : Int) < (S.cells roots : Int) + m + 1) = true := decide_eq_true (hF.1 e1)
          have b1 : (er == 10) = true := beq_iff_eq.2 e1
          have bb : (true == true) = true := rfl
          clear e1 e0 hF
          go_wp2_with fail
          go_ret3
          exact HQ2.out
        · have b1 : (er == 10) = false := beq_eq_false_iff_ne.2 e1
          clear e0 e1
          go_wp2_with fail
          go_ret3
          exact HQ1.out
    · have d1 : decide (m ≤ 4096) = false := decide_eq_false h1
      go_wp2_with fail
      go_ret3
      exact HQ1.out
  · have d0 : decide (0 ≤ m) = false := decide_eq_false h0
    go_wp2_with fail
    go_ret3
    exact HQ1.out
end

end Go.Proofs.Ytleoedjjepkhgaa
