import Derived.Test.YtkjggomkkfknhaaTwin
import Derived.LaidEqlPtr
import Derived.Deep.RegionHeld3
import Derived.Deep.CutBlock
import Derived.Deep.CutRange
/- The laws' lay. -/
namespace Go.Proofs.Ytkjggomkkfknhaa
open Go.RowKit

theorem add_add' (a : Addr) (i j : Nat) : (a.add i).add j = a.add (i + j) := by
  unfold Addr.add
  by_cases hi : i = 0 <;> by_cases hj : j = 0 <;> simp [hi, hj, Nat.add_assoc]

abbrev Bk := Int × List Int
def bkAt (L : List Bk) (k : Nat) : Bk := L.getD k (0, [])
def mOf (b : Bk) : Nat := min b.2.length 60

def layK (n : Nat) (L : List Bk) : Nat → St × List Int
  | 0 => (St.fresh n, [])
  | k + 1 => ((layK n L k).1.lay (bkAt L k).1 (mOf (bkAt L k)), (layK n L k).2 ++ [layWord (layK n L k).1 (bkAt L k).1 (mOf (bkAt L k))])

def rowK (at' : List Int) (x : Int) (fs : List Int) (S : St) : Nat → St
  | 0 => S
  | j + 1 => ((rowK at' x fs S j).set x j (lawWord (wat fs j) at')).1

def setK (at' : List Int) (L : List Bk) (S : St) : Nat → St
  | 0 => S
  | i + 1 => if wat at' i = 0 then setK at' L S i else rowK at' (wat at' i) (bkAt L i).2 (setK at' L S i) (mOf (bkAt L i))

def layS (n : Nat) (L : List Bk) : St := setK (layK n L (min L.length 60)).2 L (layK n L (min L.length 60)).1 (min L.length 60)

/-- a slice of blocks that came in -/
def RdB (w : World) (A : Option Addr) (L : List Bk) : Prop := ∀ k, k < L.length → ∃ ad FA fc, A = some ad ∧ ad.block < w.heap.size ∧ w.cell? (ad.add (k * 2)) = some (.int .i64 (bkAt L k).1) ∧ w.cell? (ad.add (k * 2 + 1)) = some (.slice FA (bkAt L k).2.length fc) ∧ RdW w FA (bkAt L k).2

theorem RdB.keep {W w : World} {A : Option Addr} {L : List Bk} (H : RdB W A L) (hc : Chg [] W w) : RdB w A L := by
  intro k hk
  obtain ⟨ad, FA, fc, e, hb, h1, h2, h3⟩ := H k hk
  exact ⟨ad, FA, fc, e, Nat.lt_of_lt_of_le hb hc.size, by rw [hc.cell (by rw [add_block]; exact hb)]; exact h1, by rw [hc.cell (by rw [add_block]; exact hb)]; exact h2, h3.keep hc⟩

structure BksOk (L : List Bk) : Prop where
  tag : ∀ k, -9223372036854775808 ≤ (bkAt L k).1 ∧ (bkAt L k).1 ≤ 9223372036854775807
  len : ∀ k, (bkAt L k).2.length ≤ 9223372036854775807
  wds : ∀ k, ∀ x ∈ (bkAt L k).2, Wd x
  all : L.length ≤ 9223372036854775807

section
variable {W : World}

set_option maxHeartbeats 4000000 in
set_option maxRecDepth 100000 in
theorem lay_out (n : Int) (hn : n < 2 ∨ 32768 < n) (bv : Value) :
    Calls Try.prog 10 #[.int .i64 n, bv] W fun e w' => e = .returned (.tuple #[.pointer none, .pointer none]) ∧ Chg [] W w' := by
  have H1 := Lib.hid (new_out n hn W)
  have H2 := Lib.hid (fun w => rnew_out n hn w)
  go_enter Try.func10, Try.ntmps10
  go_wp2_with (first | (go_at_call 29; refine H1.out.mono ?_; rintro e w' ⟨rfl, hw'⟩) | (go_at_call 30; refine (H2.out _).mono ?_; rintro e w'' ⟨rfl, hw''⟩))
  go_ret2
  refine ⟨rfl, ?_⟩
  have e : w'' = W := hw''
  subst e
  exact Chg.refl _ _

theorem fresh_tw {W w1 w2 : World} {n p h c : Nat} {cs : List Int} (hc1 : Chg [] W w1) (hm : AM w1 p h c (.slice none 0 0) cs (St.fresh n)) (h1 : W.heap.size ≤ p) (h2 : W.heap.size ≤ h) (h3 : W.heap.size ≤ c)
    (hc2 : Chg [] w1 w2) (hr : RM w2 w1.heap.size (.slice none 0 0) (fun _ => .slice none 0 0) (St.fresh n)) : TW W w2 p w1.heap.size (St.fresh n) (St.fresh n) [] := by
  have hl := hm.lts
  have hf : ∀ k ∈ foot p h c (.slice none 0 0), k = p ∨ k = h ∨ k = c := by
    intro k hk
    unfold foot at hk
    simpa [Value.ownBlock] using hk
  have hr' : ∀ k ∈ rfoot w1.heap.size (.slice none 0 0) (fun _ => .slice none 0 0) (St.fresh n).L.length, k = w1.heap.size := by
    intro k hk
    unfold rfoot at hk
    simpa [Value.ownBlock] using hk
  refine ⟨hc1.trans hc2, h, c, _, cs, _, _, hm.chg hc2 (by simp), hr, ?_, ?_, ?_, by simp⟩
  · intro k hk hk2
    have e := hr' k hk2
    have := hl k hk
    omega
  · intro k hk
    rcases hf k hk with rfl | rfl | rfl <;> assumption
  · intro k hk
    rw [hr' k hk]
    exact hc1.size

theorem layK_shape (n : Nat) (L : List Bk) : ∀ k, (layK n L k).1.n = n ∧ (layK n L k).1.up = 0
  | 0 => ⟨rfl, rfl⟩
  | k + 1 => by
    have h := layK_shape n L k
    show ((layK n L k).1.lay _ _).n = n ∧ ((layK n L k).1.lay _ _).up = 0
    unfold St.lay
    split
    · exact h
    · exact h

theorem layK_small (n : Nat) (hn : n ≤ 32768) (L : List Bk) : ∀ k, ∀ y ∈ (layK n L k).2, 0 ≤ y ∧ y ≤ 131072
  | 0 => by intro y hy; cases hy
  | k + 1 => by
    intro y hy
    have h2 : y ∈ (layK n L k).2 ++ [layWord (layK n L k).1 (bkAt L k).1 (mOf (bkAt L k))] := hy
    rw [List.mem_append, List.mem_singleton] at h2
    rcases h2 with h2 | rfl
    · exact layK_small n hn L k y h2
    · unfold layWord
      split
      · rename_i h
        obtain ⟨_, _, _, _, h5⟩ := allocErr_zero h
        obtain ⟨e1, e2⟩ := layK_shape n L k
        have e3 : (layK n L k).1.base = 0 := by unfold St.base; rw [e2]; rfl
        rw [e1, e3] at h5
        omega
      · omega

theorem lawWord_wd {x : Int} {at' : List Int} (hx : Wd x) (hs : ∀ y ∈ at', 0 ≤ y ∧ y ≤ 131072) : Wd (lawWord x at') := by
  unfold lawWord
  split
  · unfold Wd; omega
  · split
    · exact hx
    · rename_i h1 h2
      have hq0 : 0 ≤ x % 64 % (at'.length : Int) := Int.emod_nonneg _ (by omega)
      have hq1 : x % 64 % (at'.length : Int) < (at'.length : Int) := Int.emod_lt_of_pos _ (by omega)
      have := hs _ (wat_mem (xs := at') (k := (x % 64 % (at'.length : Int)).toNat) (by omega))
      unfold Wd
      omega

theorem layK_len (n : Nat) (L : List Bk) : ∀ k, (layK n L k).2.length = k
  | 0 => rfl
  | k + 1 => by simp [layK, layK_len n L k]

/-- behind the append of the k-th block's word -/
theorem lay_push {W w w4 : World} {p q n k : Nat} {L : List Bk} {v v' : Value} {o : Obj} (H : TW W w p q (layK n L (k + 1)).1 (layK n L (k + 1)).1 v.ownBlock.toList) (hg : (w.alloc o).grownBy w4 v.ownBlock)
    (hown : w4.ownsRow W.heap.size 52 1 v' (k + 1) (words (layK n L k).2 ++ [.int .u64 (layWord (layK n L k).1 (bkAt L k).1 (mOf (bkAt L k)))])) (hloc : v'.ownBlock = v.ownBlock ∨ v'.ownBlock = some (w.heap.size + 1)) :
    TW W w4 p q (layK n L (k + 1)).1 (layK n L (k + 1)).1 v'.ownBlock.toList ∧ w4.ownsRow W.heap.size 52 1 v' (k + 1) (words (layK n L (k + 1)).2) := by
  refine ⟨H.grow (((Chg.refl v.ownBlock.toList w).alloc o).grown hg (fun b hb => .inl (by rw [hb]; simp))) (fun b hb => hb) ?_, ?_⟩
  · intro b hb
    rw [Option.mem_toList] at hb
    refine ⟨(hown.lt b hb).2, ?_⟩
    rcases hloc with e | e
    · rw [e] at hb; exact .inl (by rw [hb]; simp)
    · rw [e] at hb; cases hb; exact .inr (by omega)
  · have e : words (layK n L (k + 1)).2 = words (layK n L k).2 ++ [.int .u64 (layWord (layK n L k).1 (bkAt L k).1 (mOf (bkAt L k)))] := by simp [layK, words]
    rw [e]
    exact hown

set_option maxHeartbeats 4000000 in
set_option maxRecDepth 100000 in
theorem lay_in (n : Nat) (hn1 : 2 ≤ n) (hn2 : n ≤ 32768) (A : Option Addr) (cap : Nat) (L : List Bk) (hL : RdB W A L) (hok : BksOk L) :
    Calls Try.prog 10 #[.int .i64 n, .slice A L.length cap] W fun e w' => ∃ p q, e = .returned (.tuple #[.pointer (some ⟨p, 0, none⟩), .pointer (some ⟨q, 0, none⟩)]) ∧ TW W w' p q (layS n L) (layS n L) [] := by
  have H1 := Lib.hid (new_in n hn1 hn2 W)
  have H2 := Lib.hid (fun w => rnew_in n hn1 hn2 w)
  have HL := Lib.hid hL
  have HO := Lib.hid hok
  have hall := hok.all
  obtain ⟨i0, hi, hz0, hz1, hz2⟩ := info_parts info_word
  clear hL hok
  go_enter Try.func10, Try.ntmps10
  go_wp2_with fail
  refine H1.out.mono ?_
  rintro e w1 ⟨p, h, c, cs, rfl, hc1, hm1, hp, hh, hcc⟩
  have HM := Lib.hid (And.intro hc1 (And.intro hm1 (And.intro hp (And.intro hh hcc))))
  clear hc1 hm1 hp hh hcc
  go_wp2_with fail
  refine (H2.out _).mono ?_
  rintro e w2 ⟨rfl, hc2, hr2⟩
  have HT := Lib.hid (fresh_tw HM.out.1 HM.out.2.1 HM.out.2.2.1 HM.out.2.2.2.1 HM.out.2.2.2.2 hc2 hr2)
  clear hc2 hr2 HM
  generalize w1.heap.size = q at HT ⊢
  go_upto_block 0 with fail
  have hst0 : TW W (w2.alloc (.cells #[] 52)) p q (layK n L 0).1 (layK n L 0).1 (Value.slice (some ⟨w2.heap.size, 0, none⟩) 0 0).ownBlock.toList ∧ (w2.alloc (.cells #[] 52)).ownsRow W.heap.size 52 1 (.slice (some ⟨w2.heap.size, 0, none⟩) 0 0) 0 (words (layK n L 0).2) := by
    refine ⟨HT.out.grow ((Chg.refl [] w2).alloc _) (by simp) ?_, rfl, .inr ⟨w2.heap.size, 0, #[], rfl, HT.out.chg.size, heap_alloc_new w2 _, Nat.le_refl _, by unfold maxLen; omega, rfl, rfl⟩⟩
    intro k hk
    have e : k = w2.heap.size := by simpa [Value.ownBlock] using hk
    subst e
    exact ⟨by rw [size_alloc]; omega, .inr (Nat.le_refl _)⟩
  have H0 := Lib.hid hst0
  clear hst0 HT
  generalize w2.alloc (Obj.cells #[] 52) = w3 at H0 ⊢
  obtain ⟨a0, ha0⟩ : ∃ a, a = some (⟨w2.heap.size, 0, none⟩ : Addr) := ⟨_, rfl⟩
  rw [← ha0] at H0 ⊢
  clear ha0
  go_cut [8, 9, 10, 11] from 26 to 72 (fun v8 _ _ _ wx => ∃ va vc, v8 = .slice va (min L.length 60) vc ∧ TW W wx p q (layK n L (min L.length 60)).1 (layK n L (min L.length 60)).1 (Value.slice va (min L.length 60) vc).ownBlock.toList ∧ wx.ownsRow W.heap.size 52 1 (.slice va (min L.length 60) vc) (min L.length 60) (words (layK n L (min L.length 60)).2))
  case first =>
    go_wp2_with fail
    go_loopg [8, 9] L.length (fun gh v8 v9 wr => ∃ k : Nat, gh = L.length - k ∧ k ≤ L.length ∧ k ≤ 60 ∧ v9 = .int .i64 k ∧ ∃ va vc, v8 = .slice va k vc ∧ TW W wr p q (layK n L k).1 (layK n L k).1 (Value.slice va k vc).ownBlock.toList ∧ wr.ownsRow W.heap.size 52 1 (.slice va k vc) k (words (layK n L k).2))
    case atStart => exact ⟨0, rfl, Nat.zero_le _, Nat.zero_le _, rfl, a0, 0, rfl, H0.out.1, H0.out.2⟩
    case round =>
      clear H0
      obtain ⟨k, hgk, hk, hk60, rfl, va, vc, rfl, htw, hrow⟩ := hrel
      by_cases hlt : k < L.length
      · have hdec : decide ((k : Int) < (L.length : Int)) = true := decide_eq_true (by omega)
        by_cases h60 : k < 60
        · have hdec2 : decide ((k : Int) < 60) = true := decide_eq_true (by omega)
          obtain ⟨ad, FA, fc, rfl, hb, ct, cf, hfs⟩ := HL.out.keep htw.chg k hlt
          have cf' : wr.cell? ⟨(ad.add (k * 2)).block, (ad.add (k * 2)).off + 1, none⟩ = some (.slice FA (bkAt L k).2.length fc) := by
            have h := cf
            rw [← add_add'] at h
            exact h
          have htag := HO.out.tag k
          have hlen := HO.out.len k
          have HST := Lib.hid (And.intro htw hrow)
          clear htw hrow hfs
          go_upto_region 9 with fail
          have hal : ∀ m' : Int, ((mOf (bkAt L k) : Nat) : Int) = m' → Calls Try.prog 31 #[.pointer (some ⟨p, 0, none⟩), .int .i64 (bkAt L k).1, .int .i64 m'] wr.drew fun e w' => e = .returned (.tuple #[.int .u64 (layWord (layK n L k).1 (bkAt L k).1 (mOf (bkAt L k))), .int .i64 (allocErr (layK n L k).1 (bkAt L k).1 (mOf (bkAt L k)))]) ∧
              (w'.cell? (ad.add (k * 2)) = some (.int .i64 (bkAt L k).1) ∧ w'.cell? ⟨(ad.add (k * 2)).block, (ad.add (k * 2)).off + 1, none⟩ = some (.slice FA (bkAt L k).2.length fc)) ∧
              Hid (TW W w' p q (layK n L (k + 1)).1 (layK n L k).1 (Value.slice va k vc).ownBlock.toList ∧ w'.ownsRow W.heap.size 52 1 (.slice va k vc) k (words (layK n L k).2)) := by
            rintro m' rfl
            refine (tw_alloc (HST.out.1.keep ((Chg.refl [] wr).drewN 1)) (bkAt L k).1 (mOf (bkAt L k)) htag).mono ?_
            rintro e w' ⟨he, h2, h3⟩
            obtain ⟨ad2, FA2, fc2, e2, hb2, ct2, cf2, _⟩ := HL.out.keep h2.chg k hlt
            have e3 : ad2 = ad := (Option.some.inj e2).symm
            subst e3
            have hcell : ∀ x : Addr, x.block = ad2.block → w'.cell? x = wr.cell? x := by
              intro x hx
              obtain ⟨ad3, _, _, e4, hb4, _⟩ := HL.out k hlt
              have e5 : ad3 = ad2 := (Option.some.inj e4).symm
              subst e5
              rw [h2.chg.cell (by rw [hx]; exact hb4), HST.out.1.chg.cell (by rw [hx]; exact hb4)]
            refine ⟨he, ⟨?_, ?_⟩, h2, h3.row HST.out.2 (fun b hb => by rw [hb]; simp)⟩
            · rw [hcell _ (add_block _ _)]; exact ct
            · exact (hcell ⟨(ad2.add (k * 2)).block, (ad2.add (k * 2)).off + 1, none⟩ (add_block ad2 (k * 2))).trans cf'
          have HAL := Lib.hid hal
          have hif : (if 60 < ((bkAt L k).2.length : Int) then (60 : Int) else ((bkAt L k).2.length : Int)) = ((mOf (bkAt L k) : Nat) : Int) := by unfold mOf; split <;> omega
          have HIF := Lib.hid hif
          clear hal hif
          go_cut [10, 11] from 26 to 72 (fun v10 v11 wx => v10 = .int .u64 (layWord (layK n L k).1 (bkAt L k).1 (mOf (bkAt L k))) ∧ v11 = .int .i64 (allocErr (layK n L k).1 (bkAt L k).1 (mOf (bkAt L k))) ∧
            Hid (TW W wx p q (layK n L (k + 1)).1 (layK n L k).1 (Value.slice va k vc).ownBlock.toList ∧ wx.ownsRow W.heap.size 52 1 (.slice va k vc) k (words (layK n L k).2)))
          case first =>
            have hif := HIF.out
            have HA2 := Lib.hid (HAL.out _ rfl)
            go_region_held3 (fun wy => wy.cell? (ad.add (k * 2)) = some (.int .i64 (bkAt L k).1) ∧ wy.cell? ⟨(ad.add (k * 2)).block, (ad.add (k * 2)).off + 1, none⟩ = some (.slice FA (bkAt L k).2.length fc)) (first | exact ⟨ct, cf'⟩ | exact hcc)
              (first | (go_at_call 31; refine HA2.out.mono ?_; rintro e w9 ⟨rfl, hcc, hfin⟩))
            all_goals (go_wp2; go_meet; exact ⟨rfl, rfl, hfin⟩)
          case rest =>
            obtain ⟨rfl, rfl, HX⟩ := hcut
            clear ct cf cf' HAL HIF
            obtain ⟨ad2, FA2, fc2, e2, hb2, ct, cf, _⟩ := HL.out.keep HX.out.1.chg k hlt
            have e3 : ad2 = ad := (Option.some.inj e2).symm
            subst e3
            have cf' : wc.cell? ⟨(ad2.add (k * 2)).block, (ad2.add (k * 2)).off + 1, none⟩ = some (.slice FA2 (bkAt L k).2.length fc2) := by
              have h := cf
              rw [← add_add'] at h
              exact h
            have hbl : Calls Try.prog 32 #[.pointer (some ⟨q, 0, none⟩), .int .i64 (bkAt L k).1, .int .i64 ((mOf (bkAt L k) : Nat) : Int)] wc.drew fun e w' => ∃ u, e = .returned u ∧ (w'.cell? (ad2.add (k * 2)) = some (.int .i64 (bkAt L k).1) ∧ w'.cell? ⟨(ad2.add (k * 2)).block, (ad2.add (k * 2)).off + 1, none⟩ = some (.slice FA2 (bkAt L k).2.length fc2)) ∧
                Hid (TW W w' p q (layK n L (k + 1)).1 (layK n L (k + 1)).1 (Value.slice va k vc).ownBlock.toList ∧ w'.ownsRow W.heap.size 52 1 (.slice va k vc) k (words (layK n L k).2)) := by
              refine (tw_ralloc (HX.out.1.keep ((Chg.refl [] wc).drewN 1)) (bkAt L k).1 (mOf (bkAt L k))).mono ?_
              rintro e w' ⟨he, h2, h3⟩
              have hcell : ∀ x : Addr, x.block = ad2.block → w'.cell? x = wc.cell? x := by
                intro x hx
                obtain ⟨ad3, _, _, e4, hb4, _⟩ := HL.out k hlt
                have e5 : ad3 = ad2 := (Option.some.inj e4).symm
                subst e5
                rw [h2.chg.cell (by rw [hx]; exact hb4), HX.out.1.chg.cell (by rw [hx]; exact hb4)]
              refine ⟨_, he, ⟨?_, ?_⟩, h2, h3.row HX.out.2 (fun b hb => by rw [hb]; simp)⟩
              · rw [hcell _ (add_block _ _)]; exact ct
              · exact (hcell ⟨(ad2.add (k * 2)).block, (ad2.add (k * 2)).off + 1, none⟩ (add_block ad2 (k * 2))).trans cf'
            have HBL := Lib.hid hbl
            have hif : (if 60 < ((bkAt L k).2.length : Int) then (60 : Int) else ((bkAt L k).2.length : Int)) = ((mOf (bkAt L k) : Nat) : Int) := by unfold mOf; split <;> omega
            have HIF := Lib.hid hif
            clear hbl hif
            go_upto_region 10 with fail
            go_cut [10] from 26 to 72 (fun v10 wx => v10 = .int .u64 (layWord (layK n L k).1 (bkAt L k).1 (mOf (bkAt L k))) ∧
              Hid (TW W wx p q (layK n L (k + 1)).1 (layK n L (k + 1)).1 (Value.slice va k vc).ownBlock.toList ∧ wx.ownsRow W.heap.size 52 1 (.slice va k vc) k (words (layK n L k).2)))
            case first =>
              have hif := HIF.out
              go_region_held3 (fun wy => wy.cell? (ad2.add (k * 2)) = some (.int .i64 (bkAt L k).1) ∧ wy.cell? ⟨(ad2.add (k * 2)).block, (ad2.add (k * 2)).off + 1, none⟩ = some (.slice FA2 (bkAt L k).2.length fc2)) (first | exact ⟨ct, cf'⟩ | exact hcc)
                (first | (go_at_call 32; refine HBL.out.mono ?_; rintro e w9 ⟨u, rfl, hcc, hfin⟩))
              all_goals (go_wp2; go_meet; exact ⟨rfl, hfin⟩)
            case rest =>
              obtain ⟨rfl, HY⟩ := hcut
              have HO1 := Lib.hid (HY.out.2.alloc (.cells #[.int .u64 (layWord (layK n L k).1 (bkAt L k).1 (mOf (bkAt L k)))] 52))
              have hszc := HY.out.1.chg.size
              clear ct cf cf' HBL HIF HX HST
              by_cases herr : allocErr (layK n L k).1 (bkAt L k).1 (mOf (bkAt L k)) = 0
              · have hne : (allocErr (layK n L k).1 (bkAt L k).1 (mOf (bkAt L k)) != 0) = false := bne_eq_false_iff_eq.2 herr
                have HE := Lib.hid herr
                clear herr
                go_wp2_with (at_builtin; refine wpList_append_own_at _ rfl _ _ 23 rfl W.heap.size 52 i0 (.int .u64 0) 1 8 Try.underlying23 hi hz0 hz1 hz2 rfl (by decide) _ _ _ rfl HO1.out ⟨wc.heap.size, 0, none⟩ 1 1 [.int .u64 (layWord (layK n L k).1 (bkAt L k).1 (mOf (bkAt L k)))] rfl rfl (by exact cell_one_new wc _ _) (ints_oneCell .u64 [layWord (layK n L k).1 (bkAt L k).1 (mOf (bkAt L k))]) (by unfold maxLen; omega) (by omega) (by simp only [size_alloc]; omega) ?_; intro v' w4 hown4 hgrow4 hnil hloc; rw [size_alloc] at hloc; have HP := Lib.hid (lay_push HY.out.1 hgrow4 hown4 hloc); obtain ⟨ka', kc', hv'⟩ := ownsRow_slice hown4; clear hown4 hgrow4 hnil hloc; subst hv')
                go_roundg (L.length - (k + 1))
                case measure => omega
                case rel => exact ⟨k + 1, rfl, by omega, by omega, by go_num, ka', kc', rfl, HP.out.1, HP.out.2⟩
              · have hne : (allocErr (layK n L k).1 (bkAt L k).1 (mOf (bkAt L k)) != 0) = true := bne_iff_ne.2 herr
                have hw0 : layWord (layK n L k).1 (bkAt L k).1 (mOf (bkAt L k)) = 0 := by unfold layWord; rw [if_neg herr]
                have HW0 := Lib.hid hw0
                rw [hw0] at HO1
                clear herr hw0
                go_wp2_with (at_builtin; refine wpList_append_own_at _ rfl _ _ 23 rfl W.heap.size 52 i0 (.int .u64 0) 1 8 Try.underlying23 hi hz0 hz1 hz2 rfl (by decide) _ _ _ rfl HO1.out ⟨wc.heap.size, 0, none⟩ 1 1 [.int .u64 0] rfl rfl (by exact cell_one_new wc _ _) (ints_oneCell .u64 [0]) (by unfold maxLen; omega) (by omega) (by simp only [size_alloc]; omega) ?_; intro v' w4 hown4 hgrow4 hnil hloc; rw [size_alloc] at hloc; have HP := Lib.hid (lay_push HY.out.1 hgrow4 (by rw [HW0.out]; exact hown4) hloc); obtain ⟨ka', kc', hv'⟩ := ownsRow_slice hown4; clear hown4 hgrow4 hnil hloc; subst hv')
                go_roundg (L.length - (k + 1))
                case measure => omega
                case rel => exact ⟨k + 1, rfl, by omega, by omega, by go_num, ka', kc', rfl, HP.out.1, HP.out.2⟩
        · obtain rfl : k = 60 := by omega
          have hdec2 : decide ((60 : Int) < 60) = false := by decide
          have HST := Lib.hid (And.intro htw hrow)
          have HMI := Lib.hid (show min L.length 60 = 60 by omega)
          clear htw hrow
          go_wp2_with fail
          go_meet
          rw [HMI.out]
          exact ⟨va, vc, rfl, HST.out.1, HST.out.2⟩
      · obtain rfl : k = L.length := by omega
        have hdec : decide ((L.length : Int) < (L.length : Int)) = false := decide_eq_false (by omega)
        have HST := Lib.hid (And.intro htw hrow)
        have HMI := Lib.hid (show min L.length 60 = L.length by omega)
        clear htw hrow
        go_wp2_with fail
        go_meet
        rw [HMI.out]
        exact ⟨va, vc, rfl, HST.out.1, HST.out.2⟩
  case rest =>
    obtain ⟨va, vc, rfl, htw, hrow⟩ := hcut
    have hsm := layK_small n hn2 L (min L.length 60)
    have hlen := layK_len n L (min L.length 60)
    have hST : layS n L = setK (layK n L (min L.length 60)).2 L (layK n L (min L.length 60)).1 (min L.length 60) := rfl
    have HLS := Lib.hid hST
    obtain ⟨K, hK⟩ : ∃ K, K = min L.length 60 := ⟨_, rfl⟩
    rw [← hK] at htw hrow hsm hlen HLS ⊢
    generalize (layK n L K).1 = T at *
    generalize (layK n L K).2 = at' at *
    have HX := Lib.hid (And.intro htw hrow)
    have HSM := Lib.hid hsm
    have HLN := Lib.hid hlen
    have hK1 : K ≤ L.length := by omega
    have hK2 : K ≤ 60 := by omega
    clear htw hrow hsm hST hK hlen
    go_wp2_with fail
    go_loopg [75] K (fun gh v wr => ∃ i : Nat, gh = K - i ∧ i ≤ K ∧ v = .int .i64 i ∧ TW W wr p q (setK at' L T i) (setK at' L T i) (Value.slice va K vc).ownBlock.toList ∧ wr.ownsRow W.heap.size 52 1 (.slice va K vc) K (words at'))
    case atStart => exact ⟨0, rfl, Nat.zero_le _, rfl, HX.out⟩
    case round =>
      clear HX
      obtain ⟨i, hgi, hi, rfl, htw, hrow⟩ := hrel
      by_cases hlt : i < K
      · have hdec : decide ((i : Int) < (K : Int)) = true := decide_eq_true (by omega)
        have hiL : i < L.length := by omega
        have HST := Lib.hid (And.intro htw hrow)
        have hx : ∀ j, (wat at' i = 0 → j = 0) → (wat at' i ≠ 0 → j = mOf (bkAt L i)) → setK at' L T (i + 1) = rowK at' (wat at' i) (bkAt L i).2 (setK at' L T i) j := by
          intro j h1 h2
          show (if wat at' i = 0 then _ else _) = _
          by_cases hz : wat at' i = 0
          · rw [if_pos hz, h1 hz]; rfl
          · rw [if_neg hz, h2 hz]
        have HX := Lib.hid hx
        have hmo : mOf (bkAt L i) ≤ 60 ∧ mOf (bkAt L i) ≤ (bkAt L i).2.length ∧ (mOf (bkAt L i) = 60 ∨ mOf (bkAt L i) = (bkAt L i).2.length) := by unfold mOf; omega
        have hll := HO.out.len i
        clear htw hrow hx
        go_wp2_with fail
        go_loopg [13] 60 (fun gh v wr2 => ∃ j : Nat, gh = 60 - j ∧ (wat at' i = 0 → j = 0) ∧ j ≤ mOf (bkAt L i) ∧ v = .int .i64 j ∧ TW W wr2 p q (rowK at' (wat at' i) (bkAt L i).2 (setK at' L T i) j) (rowK at' (wat at' i) (bkAt L i).2 (setK at' L T i) j) (Value.slice va K vc).ownBlock.toList ∧ wr2.ownsRow W.heap.size 52 1 (.slice va K vc) K (words at'))
        case atStart => exact ⟨0, rfl, fun _ => rfl, Nat.zero_le _, rfl, HST.out.1, HST.out.2⟩
        case round =>
          clear HST
          obtain ⟨j, hgj, hj0, hjm, rfl, htw, hrow⟩ := hrel
          have HJ0 := Lib.hid hj0
          obtain ⟨gk, rfl, lgk, cgk⟩ := row_word hrow hlt
          obtain ⟨ad, FA, fc, rfl, hb, ct, cf, hfs⟩ := HL.out.keep htw.chg i hiL
          have cf' : wr.cell? ⟨(ad.add (i * 2)).block, (ad.add (i * 2)).off + 1, none⟩ = some (.slice FA (bkAt L i).2.length fc) := by
            have h := cf
            rw [← add_add'] at h
            exact h
          have HTW := Lib.hid (And.intro htw hrow)
          have HFS := Lib.hid hfs
          clear htw hrow hfs hj0
          by_cases c1 : j < (bkAt L i).2.length
          · have d1 : decide ((j : Int) < ((bkAt L i).2.length : Int)) = true := decide_eq_true (by omega)
            by_cases c2 : j < 60
            · have d2 : decide ((j : Int) < 60) = true := decide_eq_true (by omega)
              by_cases hz : wat at' i = 0
              · have hzb : (wat at' i != 0) = false := bne_eq_false_iff_eq.2 hz
                have HZ := Lib.hid hz
                clear hz
                go_wp2_with fail
                go_roundg (K - (i + 1))
                case measure => omega
                case rel => exact ⟨i + 1, rfl, by omega, by go_num, by rw [HX.out j HJ0.out (fun h => absurd HZ.out h)]; exact HTW.out.1, HTW.out.2⟩
              · have hzb : (wat at' i != 0) = true := bne_iff_ne.2 hz
                obtain ⟨af, rfl, lf, cff⟩ := HFS.out j c1
                have hwd := HO.out.wds i _ (wat_mem c1)
                have hrw := HTW.out.2
                have hln := HLN.out
                have HWD := Lib.hid (word_am (wat (bkAt L i).2 j) hwd.1 hwd.2 (v := .slice (some ⟨gk, 0, none⟩) K vc) (at' := at') (w := wr) (base := W.heap.size) (by rw [hln]; exact hrw) HSM.out (by omega))
                have hlw := lawWord_wd hwd HSM.out
                have has := HSM.out _ (wat_mem (xs := at') (k := i) (by rw [hln]; exact hlt))
                have HSA := Lib.hid (tw_set HTW.out.1 (wat at' i) j (lawWord (wat (bkAt L i).2 j) at') (by omega) (by omega) hlw)
                have has' : 0 ≤ wat at' i ∧ wat at' i < 18446744073709551616 := by omega
                clear hln hrw has
                go_wp2_with fail
                refine HWD.out.mono ?_
                rintro e w8 ⟨rfl, hw8⟩
                obtain rfl := hw8.symm
                go_wp2_with fail
                refine HSA.out.mono ?_
                rintro e w9 ⟨rfl, ht9, hs9⟩
                have hrow9 := hs9.row HTW.out.2 (fun b hb => by rw [hb]; simp)
                obtain ⟨gk9, e9, lgk9, cgk9⟩ := row_word hrow9 hlt
                have e10 : gk9 = gk := by simpa using e9.symm
                subst e10
                have HSB := Lib.hid (tw_rset ht9 (wat at' i) j (lawWord (wat (bkAt L i).2 j) at') has'.1 has'.2 hlw)
                have HR9 := Lib.hid hrow9
                clear ht9 hs9 hrow9 e9
                go_wp2_with fail
                refine HSB.out.mono ?_
                rintro e w10 ⟨rfl, ht10, hs10⟩
                have HF := Lib.hid (And.intro ht10 (hs10.row HR9.out (fun b hb => by rw [hb]; simp)))
                clear ht10 hs10
                go_wp2_with fail
                go_roundg (60 - (j + 1))
                case measure => omega
                case rel => exact ⟨j + 1, rfl, fun h => absurd h hz, by omega, by go_num, HF.out.1, HF.out.2⟩
            · have d2 : decide ((j : Int) < 60) = false := decide_eq_false (by omega)
              go_wp2_with fail
              go_roundg (K - (i + 1))
              case measure => omega
              case rel => exact ⟨i + 1, rfl, by omega, by go_num, by rw [HX.out j HJ0.out (fun _ => by omega)]; exact HTW.out.1, HTW.out.2⟩
          · have d1 : decide ((j : Int) < ((bkAt L i).2.length : Int)) = false := decide_eq_false (by omega)
            go_wp2_with fail
            go_roundg (K - (i + 1))
            case measure => omega
            case rel => exact ⟨i + 1, rfl, by omega, by go_num, by rw [HX.out j HJ0.out (fun _ => by omega)]; exact HTW.out.1, HTW.out.2⟩
      · obtain rfl : i = K := by omega
        have hdec : decide ((i : Int) < (i : Int)) = false := decide_eq_false (by omega)
        have HF := Lib.hid htw
        clear htw hrow
        go_wp2_with fail
        go_ret2
        refine ⟨p, q, rfl, ?_⟩
        rw [HLS.out]
        exact HF.out.grow (Chg.refl [] _) (by simp) (by simp)
end
end Go.Proofs.Ytkjggomkkfknhaa
