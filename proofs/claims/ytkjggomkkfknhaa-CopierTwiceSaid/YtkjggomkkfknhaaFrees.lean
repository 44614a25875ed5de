import Derived.Test.YtkjggomkkfknhaaAwake
import Derived.Test.YtkjggomkkfknhaaOpen
/- CopierFrees. -/
namespace Go.Proofs.Ytkjggomkkfknhaa
open Go.RowKit

theorem lawWords_wd {S : St} (hS : S.ok) {l : List Int} (hw : ∀ x ∈ l, Wd x) : ∀ x ∈ lawWords S l, Wd x := by
  intro x hx
  unfold lawWords at hx
  rw [List.mem_map] at hx
  obtain ⟨y, hy, rfl⟩ := hx
  exact lawWord_wd (hw y (List.mem_of_mem_take hy)) (blocks_small hS).1

theorem lawWords_len (S : St) (l : List Int) : (lawWords S l).length ≤ 60 := by
  unfold lawWords; simp; omega

theorem upto_le {S : St} (hS : S.ok) (k : Nat) : S.upto k ≤ 65536 := by
  have h1 := span_take_le S.L k
  have h2 := hS.fit
  have h3 := hS.n3
  have h4 := base_le hS
  unfold St.upto
  omega

theorem upto_pos (S : St) (k : Nat) : S.pos k = S.upto k + 1 := by unfold St.pos St.upto; rfl

theorem upto_zero (S : St) : S.upto 0 = S.base := by simp [St.upto, span]

theorem blocks_wat {S : St} {k : Nat} (h : k < S.L.length) : wat S.blocks k = 2 * ((S.pos k : Nat) : Int) := by
  unfold wat St.blocks
  rw [List.getD_eq_getElem?_getD, List.getElem?_map]
  unfold St.starts
  simp [h]

set_option maxHeartbeats 4000000 in
set_option maxRecDepth 100000 in
theorem frees_am (W : World) (n : Int) (A : Option Addr) (cap : Nat) (L : List Bk) (HG : Given W n A L) (B : Option Addr) (cap2 : Nat) (l : List Int) (HW : GivenW W B l) :
    Calls Try.prog 6 #[.int .i64 n, .slice A L.length cap, .slice B l.length cap2] W fun e w' => e = .returned (.bool true) ∧ Chg [] W w' := by
  have HAW := Lib.hid (awake_am W)
  have H1 := Lib.hid HG
  have H2 := Lib.hid HW
  have hlo := HG.lo
  have hhi := HG.hi
  clear HG HW
  by_cases hn : n < 2 ∨ 32768 < n
  · have HLO := Lib.hid (fun w => lay_out (W := w) n hn (.slice A L.length cap))
    rcases hn with hn | hn
    · have hd : decide (n < 2) = true := decide_eq_true hn
      go_enter Try.func6, Try.ntmps6
      go_wp2_with (first | (go_at_call 9; refine HAW.out.mono ?_; rintro e w1 ⟨rfl, hc1⟩; have HC1 := Lib.hid hc1; clear hc1) | (go_at_call 10; refine (HLO.out _).mono ?_; rintro e w2 ⟨rfl, hc2⟩; have HC2 := Lib.hid hc2; clear hc2))
      go_ret
      exact ⟨rfl, HC1.out.trans HC2.out⟩
    · have hd : decide (n < 2) = false := decide_eq_false (by omega)
      have hd2 : decide (32768 < n) = true := decide_eq_true hn
      go_enter Try.func6, Try.ntmps6
      go_wp2_with (first | (go_at_call 9; refine HAW.out.mono ?_; rintro e w1 ⟨rfl, hc1⟩; have HC1 := Lib.hid hc1; clear hc1) | (go_at_call 10; refine (HLO.out _).mono ?_; rintro e w2 ⟨rfl, hc2⟩; have HC2 := Lib.hid hc2; clear hc2))
      go_ret
      exact ⟨rfl, HC1.out.trans HC2.out⟩
  · obtain ⟨m, rfl⟩ : ∃ m : Nat, n = (m : Int) := ⟨n.toNat, by omega⟩
    go_enter Try.func6, Try.ntmps6
    go_wp2_with fail
    refine HAW.out.mono ?_
    rintro e w1 ⟨rfl, hc1⟩
    have HC1 := Lib.hid hc1
    have HLI := Lib.hid (lay_in (W := w1) m (by omega) (by omega) A cap L (H1.out.rd.keep hc1) H1.out.ok)
    clear hc1
    go_wp2_with fail
    refine HLI.out.mono ?_
    rintro e w2 ⟨p, q, rfl, htw⟩
    obtain ⟨h, c, sv, cs, lv, fv, hm, _, _, hf, _⟩ := htw.ex
    have HF := Lib.hid (show ∀ k ∈ foot p h c sv, W.heap.size ≤ k from fun k hk => Nat.le_trans HC1.out.size (hf k hk))
    have HC2 := Lib.hid (HC1.out.trans htw.chg)
    generalize layS m L = S at hm
    have HM := Lib.hid hm
    have HWS := Lib.hid (words_am hm B cap2 l (H2.out.rd.keep HC2.out) H2.out.wds H2.out.len)
    clear htw hm hf
    go_wp2_with fail
    refine HWS.out.mono ?_
    rintro e w3 ⟨ov, rfl, hc3, hown⟩
    obtain ⟨oa, oc, rfl⟩ := ownsRow_slice hown
    have hm3 := HM.out.chg hc3 (by simp)
    have HC3 := Lib.hid (HC2.out.trans hc3)
    have hlw := lawWords_wd HM.out.ok H2.out.wds
    have hll := lawWords_len S l
    generalize lawWords S l = own at hown hlw hll
    have k0 := cell_at hm3.a (o := 0) (v := .pointer (some ⟨h, 0, none⟩)) rfl
    have HBA := Lib.hid (base_am hm3)
    have HRE := Lib.hid (reach_am hm3 _ own (own_low hown (Nat.zero_le _)) hlw (by omega))
    have HM3 := Lib.hid hm3
    have HO3 := Lib.hid hown
    have HLW := Lib.hid hlw
    clear hc3 hown hm3 hlw HWS HM
    go_wp2_with (go_at_call 21; refine HBA.out.mono ?_; rintro e w' ⟨rfl, hw'⟩; obtain rfl := hw'.symm)
    refine HRE.out.mono ?_
    rintro e w4 ⟨lv4, rfl, hc4, hlive⟩
    obtain ⟨va, vc, rfl⟩ := ownsRow_slice hlive
    have hm4 := HM3.out.chg hc4 (by simp)
    have HCO := Lib.hid (collect_am hm4 _ own (ownsRow_chg (own_low HO3.out (Nat.zero_le _)) hc4 (by simp)) HLW.out (by omega))
    have HC4 := Lib.hid (HC3.out.trans hc4)
    clear hc4 hlive hm4 HRE
    go_wp2_with fail
    refine HCO.out.mono ?_
    rintro e w5 ⟨xv, rfl, hc5, ⟨sv5, cs5, hm5, _⟩, hx5⟩
    have HC5 := Lib.hid (HC4.out.over hc5 HF.out)
    have hok := HM3.out.ok
    have k5 := cell_at hm5.a (o := 0) (v := .pointer (some ⟨h, 0, none⟩)) rfl
    have HM5 := Lib.hid hm5
    clear hc5 hx5 hm5 HCO k0
    go_wp2_with fail
    have hb0 := base_le hok
    have hn2 := hok.n2
    have hup := hok.up
    have hgr := good_reach S own
    have hgl : (S.reach own).length ≤ 32768 := by have h5 := hgr.length_le; have h6 := HM3.out.count; omega
    have hcb : (S.coll own).base = S.n * (1 - S.up) := rfl
    have hne : (((S.coll own).base : Int) == (S.base : Int)) = false := by
      refine beq_eq_false_iff_ne.2 fun e => ?_
      have e1 : (S.coll own).base = S.base := by omega
      rw [hcb] at e1
      unfold St.base at e1
      have : S.up = 0 ∨ S.up = 1 := by omega
      rcases this with h0 | h0 <;> rw [h0] at e1 <;> simp at e1 <;> omega
    have htop := coll_top S own
    have hctop : ((S.coll own).top : Int) = ((S.coll own).base : Int) + (S.cells own : Int) := by omega
    have hne2 : ((((S.coll own).base : Int) + (S.cells own : Int)) != (((S.coll own).base : Int) + (S.cells own : Int))) = false := bne_eq_false_iff_eq.2 rfl
    have hne3 : (((S.reach own).length : Int) != ((S.reach own).length : Int)) = false := bne_eq_false_iff_eq.2 rfl
    have hbase := fun w (hw : Chg [] w5 w) => base_am (HM5.out.chg hw (by simp))
    have htp := fun w (hw : Chg [] w5 w) => top_am (HM5.out.chg hw (by simp))
    have hbk := fun w (hw : Chg [] w5 w) => blocks_am (HM5.out.chg hw (by simp))
    rw [hctop] at htp
    have HCS : ∀ w, (w.cell? ⟨p, 0, none⟩ = some (.pointer (some ⟨h, 0, none⟩)) ∧ Hid (Chg [] w5 w)) → Calls Try.prog 21 #[.pointer (some ⟨h, 0, none⟩)] w fun e w' => e = .returned (.int .i64 ((S.coll own).base : Int)) ∧ w'.cell? ⟨p, 0, none⟩ = some (.pointer (some ⟨h, 0, none⟩)) ∧ Hid (Chg [] w5 w') := by
      rintro w ⟨hc, hw⟩
      refine (hbase w hw.out).mono ?_
      rintro e w' ⟨he, rfl⟩
      exact ⟨he, hc, hw⟩
    have HTS : ∀ w, (w.cell? ⟨p, 0, none⟩ = some (.pointer (some ⟨h, 0, none⟩)) ∧ Hid (Chg [] w5 w)) → Calls Try.prog 22 #[.pointer (some ⟨h, 0, none⟩)] w fun e w' => e = .returned (.int .i64 (((S.coll own).base : Int) + (S.cells own : Int))) ∧ w'.cell? ⟨p, 0, none⟩ = some (.pointer (some ⟨h, 0, none⟩)) ∧ Hid (Chg [] w5 w') := by
      rintro w ⟨hc, hw⟩
      refine (htp w hw.out).mono ?_
      rintro e w' ⟨he, rfl⟩
      exact ⟨he, hc, hw⟩
    have HBK : ∀ w, (w.cell? ⟨p, 0, none⟩ = some (.pointer (some ⟨h, 0, none⟩)) ∧ Hid (Chg [] w5 w)) → Calls Try.prog 23 #[.pointer (some ⟨p, 0, none⟩)] w fun e w' => ∃ a c, e = .returned (.slice a (S.reach own).length c) ∧ w'.cell? ⟨p, 0, none⟩ = some (.pointer (some ⟨h, 0, none⟩)) ∧ Hid (Chg [] w5 w') := by
      rintro w ⟨hc, hw⟩
      refine (hbk w hw.out).mono ?_
      rintro e w' ⟨v, he, hc2, hrow⟩
      obtain ⟨a, c, rfl⟩ := ownsRow_slice hrow
      have e1 : (S.coll own).blocks.length = (S.reach own).length := by unfold St.blocks; rw [List.length_map, starts_length, coll_len]
      rw [e1] at he
      exact ⟨a, c, he, cell_at ((HM5.out.chg (hw.out.trans hc2) (by simp)).a) rfl, Lib.hid (hw.out.trans hc2)⟩
    have HA1 := Lib.hid HCS
    have HA2 := Lib.hid HTS
    have HA3 := Lib.hid HBK
    have H55 : Hid (Chg [] w5 w5.drew) := Lib.hid ((Chg.refl [] w5).drewN 1)
    clear HCS HTS HBK hbase htp hbk htop hctop hcb
    have hbb : ((S.coll own).base : Int) ≤ 32768 := by have := base_le (coll_ok hok own); omega
    have hcc : ((S.cells own : Nat) : Int) ≤ 32768 := by have h1 := good_span hgr; have h2 := hok.fit; have h3 := hok.n3; unfold St.cells; omega
    have hwr : IntKind.i64.wrap (((S.coll own).base : Int) + (S.cells own : Int)) = ((S.coll own).base : Int) + (S.cells own : Int) := IntWalk.i64_in _ (by omega)
    go_region_held3 (fun wy => wy.cell? ⟨p, 0, none⟩ = some (.pointer (some ⟨h, 0, none⟩)) ∧ Hid (Chg [] w5 wy)) (first | exact ⟨k5, H55⟩ | assumption)
      (first | (go_at_call 21; refine (HA1.out _ (by assumption)).mono ?_; rintro e w9 ⟨rfl, hcc⟩) | (go_at_call 22; refine (HA2.out _ (by assumption)).mono ?_; rintro e w9 ⟨rfl, hcc⟩) | (go_at_call 23; refine (HA3.out _ (by assumption)).mono ?_; rintro e w9 ⟨ba, bc, rfl, hcc⟩))
    clear HA1 HA2 HA3 H55 hwr hne hne2 hne3 k5
    obtain ⟨kp9, hc9⟩ := hcc
    have hm9 := HM5.out.chg hc9.out (by simp)
    have hln : (S.coll own).L.length = (S.reach own).length := coll_len S own
    generalize S.coll own = T at *
    have HB9 := Lib.hid (base_am hm9)
    have HK9 := Lib.hid (blocks_am hm9)
    have hbl := (blocks_small hm9.ok).2
    rw [hbl, hln] at HK9
    have HC9 := Lib.hid (HC5.out.trans hc9.out)
    have HM9 := Lib.hid hm9
    clear hm9 hc9 HM5 HC5
    go_wp2_with (go_at_call 21; refine HB9.out.mono ?_; rintro e w' ⟨rfl, hw'⟩; obtain rfl := hw'.symm)
    refine HK9.out.mono ?_
    rintro e w10 ⟨bv, rfl, hc10, hrow10⟩
    obtain ⟨ka, kc, rfl⟩ := ownsRow_slice hrow10
    have HM10 := Lib.hid (HM9.out.chg hc10 (by simp))
    have HC10 := Lib.hid (HC9.out.trans hc10)
    have HR10 := Lib.hid hrow10
    clear hc10 hrow10 HM9 HC9 HB9 HK9 kp9
    go_wp2_with fail
    generalize (S.reach own).length = nn at *
    rw [← upto_zero T]
    go_loopg [13, 87] nn (fun gh v13 v87 wr => ∃ k N : Nat, gh = nn - k ∧ k ≤ nn ∧ v13 = .int .i64 ((T.upto k : Nat) : Int) ∧ v87 = .int .i64 k ∧ wr = w10.drewN N)
    case atStart => exact ⟨0, 0, rfl, Nat.zero_le _, rfl, rfl, rfl⟩
    case round =>
      obtain ⟨k, N, hgk, hk, rfl, rfl, rfl⟩ := hrel
      have hul := upto_le HM10.out.ok k
      by_cases hlt : k < nn
      · have hltT : k < T.L.length := by omega
        have hdec : decide ((k : Int) < (nn : Int)) = true := decide_eq_true (by omega)
        obtain ⟨gb, rfl, lb, cb⟩ := row_word HR10.out hlt
        have hpe : ((T.pos k : Nat) : Int) = ((T.upto k : Nat) : Int) + 1 := by rw [upto_pos]; omega
        rw [blocks_wat hltT, hpe] at cb
        have HP := fun w => rPtr_any (((T.upto k : Nat) : Int) + 1) (by omega) (by omega) w
        have hsz := size_am (HM10.out.drewN N) (2 * (((T.upto k : Nat) : Int) + 1)) (by omega) (by omega)
        unfold St.sizeOf at hsz
        rw [← hpe, find_ptr HM10.out.ok hltT] at hsz
        rw [hpe] at hsz
        dsimp only at hsz
        have hus := upto_succ hltT
        have hfl := (HM10.out.blkOk hltT).size
        have e1 : ((2 * (((T.upto k : Nat) : Int) + 1)) != (2 * (((T.upto k : Nat) : Int) + 1))) = false := bne_eq_false_iff_eq.2 rfl
        have HSZ := Lib.hid hsz
        have HP' := Lib.hid HP
        have HUS := Lib.hid hus
        clear hsz HP hpe hus
        go_wp2_with (first | (go_at_call 24; refine (HP'.out _).mono ?_; rintro e w' ⟨rfl, hw'⟩; obtain rfl := hw'.symm) | (go_at_call 25; refine HSZ.out.mono ?_; rintro e w' ⟨rfl, ⟨m3, rfl⟩⟩))
        go_roundg (nn - (k + 1))
        case measure => omega
        case rel =>
          refine ⟨k + 1, N + m3, rfl, by omega, ?_, by go_num, by simp⟩
          rw [HUS.out]
          congr 1
      · obtain rfl : k = nn := by omega
        have hdec : decide ((k : Int) < (k : Int)) = false := decide_eq_false (by omega)
        have HT := Lib.hid (top_am (HM10.out.drewN N))
        have hut : ((T.upto k : Nat) : Int) = ((T.top : Nat) : Int) := by rw [← hln, upto_len]
        rw [hut]
        have kp := cell_at (HM10.out.drewN N).a (o := 0) (v := .pointer (some ⟨h, 0, none⟩)) rfl
        have e1 : (((T.top : Nat) : Int) == ((T.top : Nat) : Int)) = true := beq_self_eq_true _
        clear hut hul
        go_wp2_with (go_at_call 22; refine HT.out.mono ?_; rintro e w' ⟨rfl, hw'⟩; obtain rfl := hw'.symm)
        go_ret
        exact ⟨rfl, HC10.out.drewN N⟩

end Go.Proofs.Ytkjggomkkfknhaa
