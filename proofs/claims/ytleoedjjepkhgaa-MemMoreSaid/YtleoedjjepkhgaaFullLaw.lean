import Derived.Test.YtleoedjjepkhgaaFullA
import Derived.Test.YtleoedjjepkhgaaAwakeM
import Derived.Test.YtleoedjjepkhgaaEq3
/- MemFull. -/
namespace Go.Proofs.Ytleoedjjepkhgaa
open Go.RowKit

section
variable {M p bm bp bo bn n : Nat}

theorem set_n (S : St) (x i v : Int) : (S.set x i v).1.n = S.n := by
  unfold St.set
  cases S.find x with
  | none => rfl
  | some p => dsimp only; split <;> rfl

theorem full_doer (M p bm bp bo bn n : Nat) : Doer (IX M p bm bp bo bn n) 15 33 27 34 26
    #[] #[.pointer (some ⟨bm, 0, none⟩), .pointer (some ⟨bp, 0, none⟩), .pointer (some ⟨bo, 0, none⟩), .pointer (some ⟨bn, 0, none⟩)] #[.pointer (some ⟨M, 0, none⟩)] #[.pointer (some ⟨p, 0, none⟩)] where
  keep := fun H hc hG => H.keep hc hG
  lts := fun H => H.lts
  ok := fun H => by obtain ⟨F0, ⟨h, c, sv, cs, HA, HM, _⟩, _⟩ := H; exact ⟨HA.ok, HA.blks⟩
  eA := enter_of Try.func15 (by kernel_rfl) rfl
  eF := enter_of Try.func33 (by kernel_rfl) rfl
  eG := enter_of Try.func27 (by kernel_rfl) rfl
  eS := enter_of Try.func34 (by kernel_rfl) rfl
  eZ := enter_of Try.func26 (by kernel_rfl) rfl
  alloc := fun t m a c roots HI hk ht hm hr hrl hw hsep _ => fullA_am t m a c roots HI hk ht hm hr hrl hw hsep
  force := fun a c roots HI hk hr hrl hw hsep => by
    obtain ⟨F0, h1, rfl, h2, h3, h4⟩ := HI
    refine (do_force a c roots h1 hk hr hrl hw).mono ?_
    rintro e w' ⟨a', c', F', rfl, hc, hi, hF, ho, hs⟩
    obtain ⟨t1, t2⟩ := IX.turn h2 h4 hc hi hF h3
    refine ⟨a', c', _, rfl, hc.mono (by intro b hb; simp [hb]), t1, t2, ho, fun b hb hm => ?_⟩
    have hge := (ho.lt b hb).1
    have l1 := lt_of_heap h2.km
    have l2 := lt_of_heap h2.kp
    have l3 := lt_of_heap h2.ko
    have l4 := lt_of_heap h2.kn
    simp only [List.mem_cons] at hm
    rcases hm with h | h | h | h | h
    · omega
    · omega
    · omega
    · omega
    · exact hs b hb h
  get := fun x i HI hx => by obtain ⟨F0, ⟨h, c, sv, cs, HA, HM, _⟩, _⟩ := HI; exact get_am HA x i hx.1 hx.2
  size := fun x HI hx => by obtain ⟨F0, ⟨h, c, sv, cs, HA, HM, _⟩, _⟩ := HI; exact size_am HA x hx.1 hx.2
  set := fun x i v HI hx hv => by
    obtain ⟨F0, h1, rfl, h2, h3, h4⟩ := HI
    refine (do_set x i v h1 hx hv).mono ?_
    rintro e w' ⟨F', rfl, hc, hi, hF⟩
    obtain ⟨t1, t2⟩ := IX.turn h2 h4 hc hi hF (by rw [set_n]; exact h3)
    exact ⟨_, rfl, hc.mono (by intro b hb; simp [hb]), t1, t2⟩
end

/-- what a law of steps is given -/
structure GivenS (W : World) (n : Int) (A : Option Addr) (l : List Stp) : Prop where
  lo : -9223372036854775808 ≤ n
  hi : n ≤ 9223372036854775807
  rd : RdS W A l
  ok : ∀ k, k < l.length → (stpAt l k).ok
  len : l.length ≤ 9223372036854775807

theorem add_block (a : Addr) (k : Nat) : (a.add k).block = a.block := by unfold Addr.add; split <;> rfl

theorem Chg.cellOut {W w : World} {F : List Nat} (h : Chg F W w) {a : Addr} (ha : a.block < W.heap.size) (hF : a.block ∉ F) : w.cell? a = W.cell? a := World.cell?_of_block (h.block _ ha hF)

theorem RdS.keep {W w w' : World} {F : List Nat} {A : Option Addr} {l : List Stp} (H : RdS W A l) (hc : Chg [] W w) (hF : ∀ b ∈ F, W.heap.size ≤ b) (hc' : Chg F w w') : RdS w' A l := by
  have hcc := hc.over hc' hF
  intro k hk
  obtain ⟨a, ha, hb, c0, c1, c2, c3⟩ := H k hk
  have e : ∀ x : Addr, x.block = a.block → w'.cell? x = W.cell? x := fun x hx => hcc.cellOut (by rw [hx]; exact hb) (by simp)
  refine ⟨a, ha, Nat.lt_of_lt_of_le hb hcc.size, ?_, ?_, ?_, ?_⟩
  · rw [e _ (add_block a (k * 4))]; exact c0
  · rw [e ⟨(a.add (k * 4)).block, (a.add (k * 4)).off + 1, none⟩ (add_block a (k * 4))]; exact c1
  · rw [e ⟨(a.add (k * 4)).block, (a.add (k * 4)).off + 2, none⟩ (add_block a (k * 4))]; exact c2
  · rw [e ⟨(a.add (k * 4)).block, (a.add (k * 4)).off + 3, none⟩ (add_block a (k * 4))]; exact c3

/-- the world in which MemFull begins to play -/
def fullW (w3 : World) (M p bm bn : Nat) : World :=
  ((w3.alloc (Obj.cells #[.func (.func 15) #[] #[.pointer (some ⟨bm, 0, none⟩), .pointer (some ⟨w3.heap.size + 1 + 1, 0, none⟩), .pointer (some ⟨w3.heap.size + 1, 0, none⟩), .pointer (some ⟨bn, 0, none⟩)],
    .func (.func 33) #[.pointer (some ⟨M, 0, none⟩)] #[], .func (.func 27) #[.pointer (some ⟨p, 0, none⟩)] #[], .func (.func 34) #[.pointer (some ⟨p, 0, none⟩)] #[],
    .func (.func 26) #[.pointer (some ⟨p, 0, none⟩)] #[]] 38)).alloc (Obj.cells #[.bool true] 4)).alloc (Obj.cells #[.func (.func 28) #[.pointer (some ⟨M, 0, none⟩)] #[]] 32)

theorem full_start {W w1 w2 w3 : World} {M p h c m bm bn : Nat} {cs : List Int} (HC : Chg [] W w1) (HBN : w1.heap[bn]? = some (.cells #[.int .i64 (m : Int)] 3 (0, 0)))
    (HX2 : Chg [] w1 w2 ∧ MemAt w2 M p 0 ∧ AM w2 p h c (.slice none 0 0) cs (St.fresh m) ∧ w1.heap.size ≤ M ∧ w1.heap.size ≤ p ∧ w1.heap.size ≤ h ∧ w1.heap.size ≤ c) (HBM : bm = w2.heap.size)
    (HX3 : w3.heap[bm]? = some (.cells #[.pointer (some ⟨M, 0, none⟩)] 26 (0, 0)) ∧ Chg [] w2 w3) :
    Chg [] W (fullW w3 M p bm bn) ∧ IX M p bm (w3.heap.size + 1 + 1) (w3.heap.size + 1) bn m (fullW w3 M p bm bn) (bm :: (w3.heap.size + 1 + 1) :: (w3.heap.size + 1) :: bn :: M :: foot p h c (.slice none 0 0)) (startP m).st 0 ∧
      (∀ b ∈ M :: foot p h c (.slice none 0 0), W.heap.size ≤ b) ∧ W.heap.size ≤ w3.heap.size ∧ W.heap.size ≤ bm := by
  obtain ⟨hc2, hm2, ha2, g1, g2, g3, g4⟩ := HX2
  obtain ⟨hb3, hc3⟩ := HX3
  have hc4 : Chg [] w3 (fullW w3 M p bm bn) := (((Chg.refl [] w3).alloc _).alloc _).alloc _
  have hc24 := hc3.trans hc4
  have lm := lt_of_heap hm2
  have la := ha2.lts
  have l1 := lt_of_heap HBN
  have s1 := HC.size
  have s2 := hc2.size
  have s3 := hc3.size
  have hF : ∀ b ∈ M :: foot p h c (.slice none 0 0), w1.heap.size ≤ b ∧ b < w2.heap.size := by
    intro b hb
    rw [List.mem_cons] at hb
    rcases hb with rfl | hb
    · exact ⟨g1, lm⟩
    · refine ⟨?_, la b hb⟩
      simp [foot, Value.ownBlock] at hb
      rcases hb with rfl | rfl | rfl <;> assumption
  refine ⟨(HC.trans hc2).trans hc24, ⟨_, ⟨h, c, _, cs, ha2.chg hc24 (by simp), hc24.get hm2 (by simp), rfl⟩, rfl, ⟨hc4.get hb3 (by simp), ?_, ?_, hc24.get (hc2.get HBN (by simp)) (by simp)⟩, rfl, fun b hb => ?_⟩, fun b hb => ?_, by omega, by omega⟩
  · exact heap_at_new _ _ (by simp only [size_alloc])
  · unfold fullW
    rw [Below.heap_alloc _ _ _ (by simp only [size_alloc]; omega)]
    exact heap_at_new _ _ (by simp only [size_alloc])
  · have := hF b hb
    omega
  · have := hF b hb
    omega

set_option maxHeartbeats 4000000 in
set_option maxRecDepth 100000 in
theorem fullLaw_am (W : World) (n : Int) (A : Option Addr) (cap : Nat) (l : List Stp) (HG : GivenS W n A l) :
    Calls Try.prog 4 #[.int .i64 n, .slice A l.length cap] W fun e w' => e = .returned (.bool true) ∧ Chg [] W w' := by
  have HH := Lib.hid HG
  have hlo := HG.lo
  have hhi := HG.hi
  have HAW := Lib.hid (fun W => awake_am W)
  clear HG
  by_cases hn : n < 2 ∨ 32768 < n
  · have HNO := Lib.hid (fun w => mnew_out n hn w)
    have hnn : decide (n < 2) = true ∨ (decide (n < 2) = false ∧ decide (32768 < n) = true) := by
      rcases hn with h | h
      · exact .inl (decide_eq_true h)
      · by_cases h2 : n < 2
        · exact .inl (decide_eq_true h2)
        · exact .inr ⟨decide_eq_false h2, decide_eq_true h⟩
    clear hn
    go_enter Try.func4, Try.ntmps4
    go_wp2_with fail
    refine (HAW.out _).mono ?_
    rintro e w1 ⟨rfl, hc1⟩
    have hcc := ((Chg.refl [] W).alloc (.cells #[.int .i64 n] 3)).trans hc1
    have hbn := hc1.get (heap_alloc_new W (.cells #[.int .i64 n] 3)) (by simp)
    have kbn := cell_at hbn (o := 0) rfl
    have HC := Lib.hid hcc
    clear hc1 hcc hbn
    generalize W.heap.size = bn at kbn ⊢
    have hlt := World.block_lt_of_cell? w1 _ kbn
    go_wp2_with fail
    refine (HNO.out _).mono ?_
    rintro e w2 ⟨rfl, hw⟩
    obtain rfl := hw.symm
    rcases hnn with h1 | ⟨h1, h2⟩
    all_goals
      go_wp2_with fail
      go_ret
      exact ⟨rfl, HC.out.alloc _⟩
  · obtain ⟨m, rfl⟩ : ∃ m : Nat, n = (m : Int) := ⟨n.toNat, by omega⟩
    go_enter Try.func4, Try.ntmps4
    go_wp2_with fail
    refine (HAW.out _).mono ?_
    rintro e w1 ⟨rfl, hc1⟩
    have hcc := ((Chg.refl [] W).alloc (.cells #[.int .i64 (m : Int)] 3)).trans hc1
    have hbn := hc1.get (heap_alloc_new W (.cells #[.int .i64 (m : Int)] 3)) (by simp)
    have kbn := cell_at hbn (o := 0) rfl
    have HC := Lib.hid hcc
    have HBN := Lib.hid hbn
    have HNI := Lib.hid (mnew_in m (by omega) (by omega) w1)
    clear hc1 hcc hbn
    obtain ⟨bn, hbn⟩ : ∃ bn, bn = W.heap.size := ⟨_, rfl⟩
    have hbW : W.heap.size ≤ bn := by omega
    rw [← hbn] at kbn HBN ⊢
    clear hbn
    go_wp2_with fail
    refine HNI.out.mono ?_
    rintro e w2 ⟨M, p, h, c, cs, rfl, hc2, hm2, ha2, hM, hp, hh, hcc⟩
    have hbn2 := hc2.get HBN.out (by simp)
    have kbn2 := cell_at hbn2 (o := 0) rfl
    have HX2 := Lib.hid (And.intro hc2 (And.intro hm2 (And.intro ha2 (And.intro hM (And.intro hp (And.intro hh hcc))))))
    have HBN2 := Lib.hid hbn2
    have hltb := lt_of_heap hbn2
    have HRE := Lib.hid (fun (w' : World) (hc : Chg [] w2 w') => real_am (w := w') (hc.get hm2 (by simp)))
    clear hc2 hm2 ha2 hM hp hh hcc hbn2 HNI kbn
    go_wp2_with fail
    refine (HRE.out _ ((Chg.refl [] w2).alloc _)).mono ?_
    rintro e w3 ⟨rfl, hc3⟩
    have hbm3 := hc3.get (heap_alloc_new w2 (.cells #[.pointer (some ⟨M, 0, none⟩)] 26)) (by simp)
    have hc23 := ((Chg.refl [] w2).alloc (.cells #[.pointer (some ⟨M, 0, none⟩)] 26)).trans hc3
    have hbm1 := lt_of_heap hbm3
    have HX3 := Lib.hid (And.intro hbm3 hc23)
    clear hc3 hbm3 hc23 HRE
    obtain ⟨bm, hbm⟩ : ∃ bm, bm = w2.heap.size := ⟨_, rfl⟩
    rw [← hbm] at HX3 hbm1 hltb ⊢
    have HBM := Lib.hid hbm
    clear hbm kbn2
    go_wp2_with fail
    have hI4 := full_start HC.out HBN.out HX2.out HBM.out HX3.out
    obtain ⟨hw1, hw2, hw3, hw4⟩ := hI4
    have hR : ∀ w', Chg (bm :: (w3.heap.size + 1 + 1) :: (w3.heap.size + 1) :: bn :: M :: foot p h c (.slice none 0 0)) (fullW w3 M p bm bn) w' → RdS w' A l :=
      fun w' hc => HH.out.rd.keep hw1 (fun b hb => by
        simp only [List.mem_cons] at hb
        rcases hb with h | h | h | h | h
        · rw [h]; exact hw4.2
        · rw [h]; have := hw4.1; omega
        · rw [h]; have := hw4.1; omega
        · rw [h]; exact hbW
        · exact hw3 b (by simp only [List.mem_cons]; exact h)) hc
    have HPL := Lib.hid (play_am (full_doer M p bm (w3.heap.size + 1 + 1) (w3.heap.size + 1) bn m) (n := m) hw2 A cap l hR HH.out.ok HH.out.len false)
    have HW := Lib.hid (And.intro hw1 (And.intro hw3 hw4))
    clear hw1 hw2 hw3 hw4 hR
    unfold fullW at HPL HW
    refine HPL.out.mono ?_
    rintro e w5 ⟨hv, ev, F', rfl, hc5, hi5, _⟩
    obtain ⟨_, _, _, hbx, _, _⟩ := hi5
    have ko5 := cell_at hbx.ko (o := 0) rfl
    have hcc := HW.out.1.over hc5 (fun b hb => by
        simp only [List.mem_cons] at hb
        rcases hb with h | h | h | h | h
        · rw [h]; exact HW.out.2.2.2
        · rw [h]; have := HW.out.2.2.1; omega
        · rw [h]; have := HW.out.2.2.1; omega
        · rw [h]; exact hbW
        · exact HW.out.2.1 b (by simp only [List.mem_cons]; exact h))
    have HCC := Lib.hid hcc
    clear hbx hc5 hcc HPL HW
    go_wp2_with fail
    go_ret
    exact ⟨rfl, HCC.out⟩

end Go.Proofs.Ytleoedjjepkhgaa
