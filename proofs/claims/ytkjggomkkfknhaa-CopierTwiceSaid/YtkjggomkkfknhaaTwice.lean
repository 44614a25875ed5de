import Derived.Test.YtkjggomkkfknhaaDoes
/- CopierTwice. -/
namespace Go.Proofs.Ytkjggomkkfknhaa
open Go.RowKit

set_option maxHeartbeats 4000000 in
set_option maxRecDepth 100000 in
theorem twiceLaw_am (W : World) (n : Int) (A : Option Addr) (cap : Nat) (L : List Bk) (HG : Given W n A L) (B : Option Addr) (cap2 : Nat) (l : List Int) (HW : GivenW W B l) :
    Calls Try.prog 7 #[.int .i64 n, .slice A L.length cap, .slice B l.length cap2] W fun e w' => e = .returned (.bool true) ∧ Chg [] W w' := by
  have HAW := Lib.hid (awake_am W)
  have H1 := Lib.hid HG
  have H2 := Lib.hid HW
  have hlo := HG.lo
  have hhi := HG.hi
  clear HG HW
  by_cases hn : n < 2 ∨ 32768 < n
  · have HLO := Lib.hid (fun w => lay_out (W := w) n hn (.slice A L.length cap))
    rcases hn with hn | hn
    · have hd : decide (n < 2) = true := decide_eq_true hn
      go_enter Try.func7, Try.ntmps7
      go_wp2_with (first | (go_at_call 9; refine HAW.out.mono ?_; rintro e w1 ⟨rfl, hc1⟩; have HC1 := Lib.hid hc1; clear hc1) | (go_at_call 10; refine (HLO.out _).mono ?_; rintro e w2 ⟨rfl, hc2⟩; have HC2 := Lib.hid hc2; clear hc2))
      go_ret
      exact ⟨rfl, HC1.out.trans HC2.out⟩
    · have hd : decide (n < 2) = false := decide_eq_false (by omega)
      have hd2 : decide (32768 < n) = true := decide_eq_true hn
      go_enter Try.func7, Try.ntmps7
      go_wp2_with (first | (go_at_call 9; refine HAW.out.mono ?_; rintro e w1 ⟨rfl, hc1⟩; have HC1 := Lib.hid hc1; clear hc1) | (go_at_call 10; refine (HLO.out _).mono ?_; rintro e w2 ⟨rfl, hc2⟩; have HC2 := Lib.hid hc2; clear hc2))
      go_ret
      exact ⟨rfl, HC1.out.trans HC2.out⟩
  · obtain ⟨m, rfl⟩ : ∃ m : Nat, n = (m : Int) := ⟨n.toNat, by omega⟩
    go_enter Try.func7, Try.ntmps7
    go_wp2_with fail
    refine HAW.out.mono ?_
    rintro e w1 ⟨rfl, hc1⟩
    have HC1 := Lib.hid hc1
    have HLI := Lib.hid (lay_in (W := w1) m (by omega) (by omega) A cap L (H1.out.rd.keep hc1) H1.out.ok)
    clear hc1
    go_wp2_with fail
    refine HLI.out.mono ?_
    rintro e w2 ⟨p, q, rfl, htw⟩
    obtain ⟨h, c, sv, cs, lv, fv, hm, _, _, hf, _⟩ := htw.ex
    have HF := Lib.hid (show ∀ k ∈ foot p h c sv, W.heap.size ≤ k from fun k hk => Nat.le_trans HC1.out.size (hf k hk))
    have HC2 := Lib.hid (HC1.out.trans htw.chg)
    generalize layS m L = S at hm htw
    have HTW := Lib.hid htw
    have HM := Lib.hid hm
    have HWS := Lib.hid (words_am hm B cap2 l (H2.out.rd.keep HC2.out) H2.out.wds H2.out.len)
    clear htw hm hf
    go_wp2_with fail
    refine HWS.out.mono ?_
    rintro e w3 ⟨ov, rfl, hc3, hown⟩
    obtain ⟨oa, oc, rfl⟩ := ownsRow_slice hown
    have hm3 := HM.out.chg hc3 (by simp)
    have HC3 := Lib.hid (HC2.out.trans hc3)
    have HT3 := Lib.hid (HTW.out.keep hc3)
    have hlw := lawWords_wd HM.out.ok H2.out.wds
    have hll := lawWords_len S l
    generalize lawWords S l = own at hown hlw hll
    have HGR := Lib.hid (graph_am hm3 _ own (own_low hown (Nat.zero_le _)) hlw (by omega))
    have HM3 := Lib.hid hm3
    have HO3 := Lib.hid hown
    have HLW := Lib.hid hlw
    clear hc3 hown hm3 hlw HWS HM HLI HAW HC2
    go_wp2_with fail
    refine HGR.out.mono ?_
    rintro e w4 ⟨f1, t1, m1, rows, rfl, hc4, hf1, ht1, hr1, hrows⟩
    obtain ⟨f1a, f1c, rfl⟩ := ownsRow_slice hf1
    obtain ⟨t1a, t1c, rfl⟩ := ownsRow_slice ht1
    obtain ⟨m1a, m1c, rfl⟩ := ownsRow_slice hr1.row
    have hgl : (S.reach own).length ≤ 32768 := by have h5 := (good_reach S own).length_le; have h6 := HM3.out.count; omega
    have hrl : rows.length = (S.reach own).length := by have h1 := congrArg List.length hrows; simpa using h1
    have HGD := Lib.hid (good_reach S own)
    have HCALM := Lib.hid (calm_of (S := S) (roots := own))
    obtain ⟨g, hg⟩ : ∃ g, g = S.reach own := ⟨_, rfl⟩
    rw [← hg] at ht1 hrows hrl hgl HGD HCALM hf1 ⊢
    rw [hrl]
    have HC4 := Lib.hid (HC3.out.trans hc4)
    have HT4 := Lib.hid (HT3.out.keep hc4)
    have HM4 := Lib.hid (HM3.out.chg hc4 (by simp))
    have HO4 := Lib.hid (ownsRow_chg HO3.out hc4 (by simp))
    have HF1 := Lib.hid hf1
    have HT1 := Lib.hid ht1
    have HR1 := Lib.hid hr1
    have HRW := Lib.hid (And.intro hrows hrl)
    have HGE := Lib.hid hg
    have HSZ := Lib.hid hc4.size
    clear hc4 hf1 ht1 hr1 hrows hrl hg HGR HO3 HC3
    have htag : ∀ k b, g[k]? = some b → ∃ gt, t1a = some ⟨gt, 0, none⟩ ∧ w4.cell? ⟨gt, k, none⟩ = some (.int .i64 (((S.blk b).tag : Nat) : Int)) := by
      intro k b hb
      obtain ⟨gt, e, _, hc⟩ := row_at HT1.out (nats_at (n := (S.blk b).tag) (k := k) (by rw [List.getElem?_map, hb]; rfl))
      exact ⟨gt, e, hc⟩
    have hfld : ∀ k b, g[k]? = some b → ∃ gm la lc, m1a = some ⟨gm, 0, none⟩ ∧ w4.cell? ⟨gm, k, none⟩ = some (.slice la (nodesOf S g (S.blk b)).length lc) ∧ w4.ownsRow w3.heap.size 88 3 (.slice la (nodesOf S g (S.blk b)).length lc) (nodesOf S g (S.blk b)).length (ndCs (nodesOf S g (S.blk b))) := by
      intro k b hb
      obtain ⟨lv, h1, h2⟩ := HR1.out.at HRW.out.1 (k := k) (nd := nodesOf S g (S.blk b)) (by rw [List.getElem?_map, hb]; rfl)
      obtain ⟨la, lc, rfl⟩ := ownsRow_slice h2
      obtain ⟨gm, e, _, hc⟩ := row_at HR1.out.row h1
      exact ⟨gm, la, lc, e, hc, h2⟩
    have HTAG := Lib.hid htag
    have HFLD := Lib.hid hfld
    clear htag hfld
    go_wp2_with fail
    go_loopg [50] g.length (fun gh v wr => ∃ k : Nat, gh = g.length - k ∧ k ≤ g.length ∧ v = .int .i64 ((k : Nat) : Int) ∧ Hid (∀ j, j < k → strayB S g j = false) ∧ w4 = wr)
    case atStart => exact ⟨0, rfl, Nat.zero_le _, rfl, Lib.hid (fun j hj => absurd hj (Nat.not_lt_zero _)), rfl⟩
    case round =>
      obtain ⟨k, hgk, hk, rfl, HS, rfl⟩ := hrel
      by_cases hlt : k < g.length
      · have hdec : decide ((k : Int) < (g.length : Int)) = true := decide_eq_true (by omega)
        obtain ⟨b, hb⟩ : ∃ b, g[k]? = some b := ⟨_, List.getElem?_eq_getElem hlt⟩
        have hbl : b < S.L.length := HGD.out.lt b (List.mem_of_getElem? hb)
        obtain ⟨gt, rfl, ct⟩ := HTAG.out k b hb
        obtain ⟨gm, la, lc, rfl, cf, hrf⟩ := HFLD.out k b hb
        have hbo := HM4.out.blkOk hbl
        have hnl := nodesOf_len S g (S.blk b)
        have hsz := hbo.size
        have HST := Lib.hid (stray_am (w := w4) p hrf (by omega) (nodesOf_wd hbo.words))
        have hsd : strayB S g k = (decide ((S.blk b).tag ≠ 202) && (nodesOf S g (S.blk b)).any strayN) := by
          unfold strayB
          rw [List.getD_eq_getElem?_getD, hb]; rfl
        by_cases ht : (S.blk b).tag = 202
        · have hdt : ((((S.blk b).tag : Nat) : Int) != 202) = false := bne_eq_false_iff_eq.2 (by omega)
          rw [decide_eq_false (by simpa using ht), Bool.false_and] at hsd
          have HSD := Lib.hid hsd
          clear hsd hrf hnl hb ht
          go_wp2_with fail
          go_roundg (g.length - (k + 1))
          case measure => omega
          case rel =>
            refine ⟨k + 1, rfl, by omega, by go_num, Lib.hid (fun j hj => ?_), rfl⟩
            by_cases e : j = k
            · rw [e]; exact HSD.out
            · exact HS.out j (by omega)
        · have hdt : ((((S.blk b).tag : Nat) : Int) != 202) = true := bne_iff_ne.2 (by omega)
          rw [decide_eq_true ht, Bool.true_and] at hsd
          have HSD := Lib.hid hsd
          clear hsd hrf hnl hb ht
          cases hs : (nodesOf S g (S.blk b)).any strayN with
          | true =>
            rw [hs] at HST
            clear hs
            go_wp2_with (go_at_call 19; refine HST.out.mono ?_; rintro e w' ⟨rfl, hw'⟩; obtain rfl := hw')
            go_ret
            exact ⟨rfl, HC4.out⟩
          | false =>
            rw [hs] at HST HSD
            clear hs
            go_wp2_with (go_at_call 19; refine HST.out.mono ?_; rintro e w' ⟨rfl, hw'⟩; obtain rfl := hw')
            go_roundg (g.length - (k + 1))
            case measure => omega
            case rel =>
              refine ⟨k + 1, rfl, by omega, by go_num, Lib.hid (fun j hj => ?_), rfl⟩
              by_cases e : j = k
              · rw [e]; exact HSD.out
              · exact HS.out j (by omega)
      · obtain rfl : k = g.length := by omega
        have hdec : decide ((g.length : Int) < (g.length : Int)) = false := decide_eq_false (by omega)
        have hfw : ∀ n ∈ own.map (node S g), Wd n.w := by
          intro n hn
          rw [List.mem_map] at hn
          obtain ⟨x, hx, rfl⟩ := hn
          exact node_wd (HLW.out x hx)
        have hfl : (own.map (node S g)).length = own.length := by simp
        have hf1 := HF1.out
        rw [← hfl] at hf1
        have HST := Lib.hid (stray_am (w := w4) p hf1 (by omega) hfw)
        rw [hfl] at HST
        clear hfw hf1 hfl
        cases hs : (own.map (node S g)).any strayN with
        | true =>
          rw [hs] at HST
          clear hs
          go_wp2_with (go_at_call 19; refine HST.out.mono ?_; rintro e w' ⟨rfl, hw'⟩; obtain rfl := hw')
          go_ret
          exact ⟨rfl, HC4.out⟩
        | false =>
          rw [hs] at HST
          have HCA := Lib.hid (HCALM.out hs HS.out)
          have HCO := Lib.hid (tw_collect HT4.out _ own (own_low HO4.out (Nat.zero_le _)) HLW.out (by omega))
          have hok := HM3.out.ok
          have h2b := twice_blocks hok HCA.out
          have h2t := twice_top hok HCA.out
          have h3w := thrice_word hok HCA.out
          have hl1 := now_len S own
          have hl2 := now_len (S.coll own) (S.now own)
          have hw1 := now_wd hok HLW.out
          have hw2 := now_wd (coll_ok hok own) hw1
          clear hs HS HCALM HFLD HTAG HM4 HT3 HTW
          go_wp2_with (go_at_call 19; refine HST.out.mono ?_; rintro e w' ⟨rfl, hw'⟩; obtain rfl := hw')
          refine HCO.out.mono ?_
          rintro e w5 ⟨xv, rfl, ht5, _, hx5⟩
          obtain ⟨xa, xc, rfl⟩ := ownsRow_slice hx5
          have hok1 := coll_ok hok own
          have hok2 := coll_ok hok1 (S.now own)
          obtain ⟨x, hx⟩ : ∃ x, x = S.now own := ⟨_, rfl⟩
          rw [← hx] at h2b h2t h3w hl1 hl2 hw1 hw2 hx5 hok2
          generalize S.coll own = S1 at *
          obtain ⟨y, hy⟩ : ∃ y, y = S1.now x := ⟨_, rfl⟩
          obtain ⟨S2, hS2⟩ : ∃ S2, S2 = S1.coll x := ⟨_, rfl⟩
          rw [← hy, ← hS2] at h3w
          rw [← hS2] at h2b h2t hok2
          rw [← hy] at hl2 hw2
          have htop1 : S1.top ≤ 65536 := by have h := upto_le hok1 S1.L.length; rw [upto_len] at h; exact h
          have htop2 : S2.top ≤ 65536 := by have h := upto_le hok2 S2.L.length; rw [upto_len] at h; exact h
          have hb1 := base_le hok1
          have hb2 := base_le hok2
          have hK : S1.L.length ≤ 65536 := by have h := upto_le hok1 S1.L.length; have h2 := span_ge S1.L; unfold St.upto at h; rw [List.take_length] at h; omega
          have hk1 : S1.blocks.length = S1.L.length := (blocks_small hok1).2
          have hk2 : S2.blocks.length = S1.L.length := by rw [(blocks_small hok2).2]; exact h2b.1
          obtain ⟨tt, htt⟩ : ∃ tt : Int, tt = (S1.top : Int) - (S1.base : Int) := ⟨_, rfl⟩
          have ew1 : IntKind.i64.wrap ((S1.top : Int) - (S1.base : Int)) = tt := by rw [htt]; exact IntWalk.i64_in _ (by omega)
          have ew2 : IntKind.i64.wrap ((S2.top : Int) - (S2.base : Int)) = tt := by
            have e : (S2.top : Int) - (S2.base : Int) = tt := by rw [htt]; omega
            rw [e, htt]; exact IntWalk.i64_in _ (by omega)
          have EW2 := Lib.hid ew2
          have H2B := Lib.hid h2b
          have H3W := Lib.hid h3w
          have HL := Lib.hid (And.intro hl1 hl2)
          have HWW := Lib.hid (And.intro hw1 hw2)
          have HY := Lib.hid hy
          have HS2 := Lib.hid hS2
          have HK12 := Lib.hid (And.intro hk1 hk2)
          have HTB := Lib.hid (And.intro htop1 (And.intro htop2 (And.intro hb1 hb2)))
          have HOK := Lib.hid (And.intro hok1 hok2)
          obtain ⟨h5, c5, sv5, cs5, lv5, fv5, hm5, _⟩ := ht5.ex
          have kp5 := cell_at hm5.a (o := 0) (v := .pointer (some ⟨h5, 0, none⟩)) rfl
          have HTP := Lib.hid (fun n => top_am (hm5.drewN n))
          have HBS := Lib.hid (fun n => base_am (hm5.drewN n))
          have HM5 := Lib.hid hm5
          have HT5 := Lib.hid ht5
          have HX5 := Lib.hid hx5
          clear hm5 ht5 hx5 hx hy hS2 h2b h2t h3w hl1 hl2 hw1 hw2 hok1 hok2 hb1 hb2 htop1 htop2 hk1 hk2 htt ew2 HCO
          go_upto_region 17 with fail
          refine region_quiet (by kernel_rfl) (by kernel_rfl) ?_
          repeat go_big_quiet_step ((first | (go_at_call 22; exact Calls.quiet_of_same (HTP.out _)) | (go_at_call 21; exact Calls.quiet_of_same (HBS.out _))))
          refine wpQuiet_nil ?_
          intro m5
          have hm6 := HM5.out.drewN m5
          have HBK := Lib.hid (blocks_am hm6)
          have HM6 := Lib.hid hm6
          have HT6 := Lib.hid (HT5.out.keep ((Chg.refl [] w5).drewN m5))
          have HX6 := Lib.hid (ownsRow_chg HX5.out ((Chg.refl [] w5).drewN m5) (by simp))
          clear hm6 HTP HBS HM5 HT5 HX5 kp5 ew1
          generalize w5.drewN m5 = w6 at HBK HM6 HT6 HX6 ⊢
          go_wp2_with fail
          refine HBK.out.mono ?_
          rintro e w7 ⟨bv, rfl, hc7, hb7⟩
          rw [HK12.out.1] at hb7
          obtain ⟨ba, bc, rfl⟩ := ownsRow_slice hb7
          have hm7 := HM6.out.chg hc7 (by simp)
          have kp7 := cell_at hm7.a (o := 0) (v := .pointer (some ⟨h5, 0, none⟩)) rfl
          have HB7 := Lib.hid (base_am hm7)
          have hx7 := ownsRow_chg HX6.out hc7 (by simp)
          have ht7 : TW w1 w7 p q S1 S ((Value.slice ba S1.L.length bc).ownBlock.toList ++ (Value.slice xa own.length xc).ownBlock.toList) := HT6.out.grow hc7 (by simp) (fun k hk => by
            rw [List.mem_append, Option.mem_toList, Option.mem_toList] at hk
            rcases hk with hk | hk
            · exact ⟨(hb7.lt k hk).2, .inr (hb7.lt k hk).1⟩
            · exact ⟨(hx7.lt k hk).2, .inl (by rw [List.append_nil, Option.mem_toList]; exact hk)⟩)
          have hx7' : w7.ownsRow 0 52 1 (.slice xa own.length xc) x.length (words x) := by rw [HL.out.1]; exact own_low hx7 (Nat.zero_le _)
          have HCO2 := Lib.hid (tw_collect ht7 _ x hx7' HWW.out.1 (by rw [HL.out.1]; omega))
          have HX7 := Lib.hid hx7
          have HBR7 := Lib.hid hb7
          clear hx7 hx7' ht7 hb7 hm7 hc7 HBK HM6 HT6 HX6
          go_wp2_with (go_at_call 21; refine HB7.out.mono ?_; rintro e w' ⟨rfl, hw'⟩; obtain rfl := hw'.symm)
          refine HCO2.out.mono ?_
          rintro e w8 ⟨yv, rfl, ht8, hs8, hy8⟩
          rw [HL.out.1, ← HY.out] at hy8
          rw [← HS2.out] at ht8
          obtain ⟨ya, yc, rfl⟩ := ownsRow_slice hy8
          obtain ⟨h8, c8, sv8, cs8, lv8, fv8, hm8, _⟩ := ht8.ex
          have hx8 := hs8.row HX7.out (fun k hk => by rw [List.mem_append, Option.mem_toList, Option.mem_toList]; exact .inr hk)
          have hb8 := hs8.row HBR7.out (fun k hk => by rw [List.mem_append, Option.mem_toList]; exact .inl hk)
          have HBK := Lib.hid (blocks_am hm8)
          have HR8 := Lib.hid (And.intro hx8 (And.intro hb8 hy8))
          have HT8 := Lib.hid ht8
          have HM8 := Lib.hid hm8
          clear hx8 hb8 hy8 ht8 hs8 hm8 HCO2 HX7 HBR7 HB7 kp7
          go_wp2_with fail
          refine HBK.out.mono ?_
          rintro e w9 ⟨cv, rfl, hc9, hc9r⟩
          rw [HK12.out.2] at hc9r
          obtain ⟨ca, cc, rfl⟩ := ownsRow_slice hc9r
          have hm9 := HM8.out.chg hc9 (by simp)
          have kp9 := cell_at hm9.a (o := 0) (v := .pointer (some ⟨h8, 0, none⟩)) rfl
          have HTP := Lib.hid (fun n => top_am (hm9.drewN n))
          have HBS := Lib.hid (fun n => base_am (hm9.drewN n))
          have hr8 := HR8.out
          have HX9 := Lib.hid (ownsRow_chg hr8.1 hc9 (by simp))
          have HB9 := Lib.hid (ownsRow_chg hr8.2.1 hc9 (by simp))
          have HY9 := Lib.hid (ownsRow_chg hr8.2.2 hc9 (by simp))
          have HC9 := Lib.hid hc9r
          have hx9 := HX9.out
          have hy9 := HY9.out
          have HT9 := Lib.hid (show TW w1 w9 p q S2 S ((Value.slice ya own.length yc).ownBlock.toList ++ (Value.slice xa own.length xc).ownBlock.toList) from HT8.out.grow hc9 (by simp) (fun k hk => by
            rw [List.mem_append, Option.mem_toList, Option.mem_toList] at hk
            rcases hk with hk | hk
            · exact ⟨(hy9.lt k hk).2, .inl (by simp only [List.mem_append, Option.mem_toList]; exact .inl hk)⟩
            · exact ⟨(hx9.lt k hk).2, .inl (by simp only [List.mem_append, Option.mem_toList]; exact .inr (.inr hk))⟩))
          have HM9 := Lib.hid hm9
          have ew2 := EW2.out
          have ne1 : (tt != tt) = false := bne_eq_false_iff_eq.2 rfl
          have ne2 : ((S1.L.length : Int) != (S1.L.length : Int)) = false := bne_eq_false_iff_eq.2 rfl
          have ne3 : ((own.length : Int) != (own.length : Int)) = false := bne_eq_false_iff_eq.2 rfl
          clear hm9 hc9 hc9r hr8 hx9 hy9 HBK HR8 HT8 HM8
          go_upto_region 22 with fail
          refine region_quiet (by kernel_rfl) (by kernel_rfl) ?_
          repeat go_big_quiet_step ((first | (go_at_call 22; exact Calls.quiet_of_same (HTP.out _)) | (go_at_call 21; exact Calls.quiet_of_same (HBS.out _))))
          refine wpQuiet_nil ?_
          intro m9
          clear ew2 HTP
          go_wp2_with fail
          generalize hKK : S1.L.length = K at *
          go_loopg [125] K (fun gh v wr => ∃ k N : Nat, gh = K - k ∧ k ≤ K ∧ v = .int .i64 ((k : Nat) : Int) ∧ wr = w9.drewN N)
          case atStart => exact ⟨0, m9, rfl, Nat.zero_le _, rfl, rfl⟩
          case round =>
            obtain ⟨k, N, hgk, hk, rfl, rfl⟩ := hrel
            by_cases hlt : k < K
            · have hdec : decide ((k : Int) < (K : Int)) = true := decide_eq_true (by omega)
              obtain ⟨gb, rfl, _, cb⟩ := row_word HB9.out hlt
              obtain ⟨gc, rfl, _, ccc⟩ := row_word HC9.out hlt
              rw [blocks_wat (by omega)] at cb
              rw [blocks_wat (by have := HK12.out.2; rw [(blocks_small HOK.out.2).2] at this; omega)] at ccc
              have hp := H2B.out.2 k (by omega)
              have hpl1 : S1.pos k ≤ 65537 := by rw [upto_pos]; have := upto_le HOK.out.1 k; omega
              have hpl2 : S2.pos k ≤ 65537 := by rw [upto_pos]; have := upto_le HOK.out.2 k; omega
              have htb := HTB.out
              obtain ⟨dd, hdd⟩ : ∃ dd : Int, dd = 2 * ((S1.pos k : Nat) : Int) - 2 * (S1.base : Int) := ⟨_, rfl⟩
              have f1 : IntKind.i64.wrap (2 * ((S1.pos k : Nat) : Int)) = 2 * ((S1.pos k : Nat) : Int) := IntWalk.i64_in _ (by omega)
              have f2 : IntKind.i64.wrap (2 * ((S2.pos k : Nat) : Int)) = 2 * ((S2.pos k : Nat) : Int) := IntWalk.i64_in _ (by omega)
              have f3 : IntKind.i64.wrap (2 * (S1.base : Int)) = 2 * (S1.base : Int) := IntWalk.i64_in _ (by omega)
              have f4 : IntKind.i64.wrap (2 * (S2.base : Int)) = 2 * (S2.base : Int) := IntWalk.i64_in _ (by omega)
              have f5 : IntKind.i64.wrap (2 * ((S1.pos k : Nat) : Int) - 2 * (S1.base : Int)) = dd := by rw [hdd]; exact IntWalk.i64_in _ (by omega)
              have f6 : IntKind.i64.wrap (2 * ((S2.pos k : Nat) : Int) - 2 * (S2.base : Int)) = dd := by
                have e : 2 * ((S2.pos k : Nat) : Int) - 2 * (S2.base : Int) = dd := by omega
                rw [e, hdd]; exact IntWalk.i64_in _ (by omega)
              have f7 : (dd != dd) = false := bne_eq_false_iff_eq.2 rfl
              clear hp hpl1 hpl2 htb hdd
              go_upto_region 27 with fail
              refine region_quiet_at (by kernel_rfl) (by kernel_rfl) ?_
              repeat go_big_quiet_step ((go_at_call 21; exact Calls.quiet_of_same (HBS.out _)))
              refine wpQuiet_nil ?_
              intro m10
              clear f1 f2 f3 f4 f5 f6
              go_wp2_with fail
              go_roundg (K - (k + 1))
              case measure => omega
              case rel => exact ⟨k + 1, m10, rfl, by omega, by go_num, rfl⟩
            · obtain rfl : k = K := by omega
              have hdec : decide ((k : Int) < (k : Int)) = false := decide_eq_false (by omega)
              have ht10 := HT9.out.keep ((Chg.refl [] w9).drewN N)
              have hy10 := ownsRow_chg HY9.out ((Chg.refl [] w9).drewN N) (by simp)
              have hx10 := ownsRow_chg HX9.out ((Chg.refl [] w9).drewN N) (by simp)
              have HCO3 := Lib.hid (tw_collect ht10 _ y (by rw [HL.out.2, HL.out.1]; exact own_low hy10 (Nat.zero_le _)) HWW.out.2 (by rw [HL.out.2, HL.out.1]; omega))
              have HX10 := Lib.hid hx10
              clear ht10 hy10 hx10
              go_wp2_with fail
              refine HCO3.out.mono ?_
              rintro e w11 ⟨zv, rfl, ht11, hs11, hz11⟩
              rw [H3W.out, HL.out.2, HL.out.1] at hz11
              obtain ⟨za, zc, rfl⟩ := ownsRow_slice hz11
              have hx11 := hs11.row HX10.out (fun k hk => by rw [List.mem_append, Option.mem_toList, Option.mem_toList]; exact .inr hk)
              have HEQ := Lib.hid (equal_am (w := w11) (xs := x) (by rw [HL.out.1]; exact hx11) (by rw [HL.out.1]; exact hz11) (by rw [HL.out.1]; omega))
              have HC11 := Lib.hid (HC1.out.trans ht11.chg)
              clear ht11 hs11 hz11 hx11 HCO3
              go_wp2_with (go_at_call 13; refine HEQ.out.mono ?_; rintro e w12 ⟨rfl, ⟨n12, rfl⟩⟩)
              go_ret
              exact ⟨rfl, HC11.out.drewN n12⟩

end Go.Proofs.Ytkjggomkkfknhaa
