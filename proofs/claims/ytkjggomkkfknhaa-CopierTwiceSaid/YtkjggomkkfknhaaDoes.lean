import Derived.Test.YtkjggomkkfknhaaFrees
import Derived.Test.YtkjggomkkfknhaaRefc
import Derived.Test.YtkjggomkkfknhaaSameLaw
/- CopierDoes. -/
namespace Go.Proofs.Ytkjggomkkfknhaa
open Go.RowKit

section
variable {W w w' : World} {p q : Nat} {A B : St} {G : List Nat}

theorem tw_collect (H : TW W w p q A B G) (rv : Value) (roots : List Int) (hr : w.ownsRow 0 52 1 rv roots.length (words roots)) (hw : ∀ x ∈ roots, Wd x) (hrl : roots.length ≤ 1000000) :
    Calls Try.prog 12 #[.pointer (some ⟨p, 0, none⟩), rv] w fun e w' => ∃ v, e = .returned v ∧ TW W w' p q (A.coll roots) B (v.ownBlock.toList ++ G) ∧ Same G w w' ∧
      w'.ownsRow w.heap.size 52 1 v roots.length (words (A.now roots)) := by
  obtain ⟨h, c, sv, cs, lv, fv, h1, h2, h3, h4, h5, h6⟩ := H.ex
  refine (collect_am h1 rv roots hr hw hrl).mono ?_
  rintro e w' ⟨v, rfl, hc, ⟨sv', ds, hm, hs⟩, hrow⟩
  have hf : ∀ k ∈ foot p h c sv', k ∈ foot p h c sv ∨ w.heap.size ≤ k := by
    intro k hk
    unfold foot at hk
    simp only [List.mem_cons, Option.mem_toList] at hk
    rcases hk with rfl | rfl | rfl | hk
    · exact .inl (by simp [foot])
    · exact .inl (by simp [foot])
    · exact .inl (by simp [foot])
    · exact hs k hk
  refine ⟨v, rfl, ⟨H.chg.over hc h4, h, c, sv', ds, lv, fv, hm, h2.chg hc (fun k hk hm => h3 k hm hk), ?_, ?_, h5, ?_⟩, ⟨hc.size, fun k hk => hc.block k (h6 k hk).2.1 (h6 k hk).2.2.1⟩, hrow⟩
  · intro k hk hr
    rcases hf k hk with h6 | h6
    · exact h3 k h6 hr
    · have := h2.lts k hr; omega
  · intro k hk
    rcases hf k hk with h6 | h6
    · exact h4 k h6
    · have := H.chg.size; omega
  · intro k hk
    rw [List.mem_append, Option.mem_toList] at hk
    rcases hk with hk | hk
    · have hb := hrow.lt k hk
      refine ⟨Nat.le_trans H.chg.size hb.1, hb.2, fun hin => ?_, fun hin => ?_⟩
      · unfold foot at hin
        simp only [List.mem_cons] at hin
        rcases hin with rfl | rfl | rfl | hin
        · have := h1.lts k (by simp [foot]); omega
        · have := h1.lts k (by simp [foot]); omega
        · have := h1.lts k (by simp [foot]); omega
        · obtain ⟨cs2, fz, hty⟩ := own_type hm.starts k hin
          exact own_ne' hrow hty (by decide) hk
      · have := h2.lts k hin; omega
    · obtain ⟨g1, g2, g3, g4⟩ := h6 k hk
      refine ⟨g1, Nat.lt_of_lt_of_le g2 hc.size, fun hin => ?_, g4⟩
      rcases hf k hin with h7 | h7
      · exact g3 h7
      · omega

theorem tw_rcollect (H : TW W w p q A B G) (rv : Value) (roots : List Int) (hr : w.ownsRow 0 52 1 rv roots.length (words roots)) (hw : ∀ x ∈ roots, Wd x) (hrl : roots.length ≤ 1000000) :
    Calls Try.prog 14 #[.pointer (some ⟨q, 0, none⟩), rv] w fun e w' => ∃ v, e = .returned v ∧ TW W w' p q A (B.coll roots) G ∧ Same G w w' ∧
      w'.ownsRow w.heap.size 52 1 v roots.length (words (B.now roots)) := by
  obtain ⟨h, c, sv, cs, lv, fv, h1, h2, h3, h4, h5, h6⟩ := H.ex
  have hqf : q ∈ rfoot q lv fv B.L.length := by simp [rfoot]
  refine (rcollect_am h2 rv roots hr hw hrl).mono ?_
  rintro e w' ⟨v, lv', fv', rfl, hm, hc, hrow, hf⟩
  have hq : ∀ k ∈ [q], k ∈ rfoot q lv fv B.L.length := by intro k hk; rw [List.mem_singleton.1 hk]; exact hqf
  refine ⟨v, rfl, ⟨H.chg.over hc (fun k hk => h5 k (hq k hk)), h, c, sv, cs, lv', fv', h1.chg hc (fun k hk hm => h3 k hk (hq k hm)), hm, ?_, h4, ?_, ?_⟩, ⟨hc.size, fun k hk => hc.block k (h6 k hk).2.1 (fun hin => (h6 k hk).2.2.2 (hq k hin))⟩, hrow⟩
  · intro k hk hr
    rcases hf k hr with rfl | h7
    · exact h3 _ hk hqf
    · have := h1.lts k hk; omega
  · intro k hk
    rcases hf k hk with rfl | h7
    · exact h5 _ hqf
    · have := H.chg.size; omega
  · intro k hk
    obtain ⟨g1, g2, g3, g4⟩ := h6 k hk
    refine ⟨g1, Nat.lt_of_lt_of_le g2 hc.size, g3, fun hin => ?_⟩
    rcases hf k hin with rfl | h7
    · exact g4 hqf
    · omega
end

set_option maxHeartbeats 4000000 in
set_option maxRecDepth 100000 in
theorem doesLaw_am (W : World) (n : Int) (A : Option Addr) (cap : Nat) (L : List Bk) (HG : Given W n A L) (B : Option Addr) (cap2 : Nat) (l : List Int) (HW : GivenW W B l) (B3 : Option Addr) (cap3 : Nat) (l3 : List Int) (HW3 : GivenW W B3 l3) :
    Calls Try.prog 3 #[.int .i64 n, .slice A L.length cap, .slice B l.length cap2, .slice B3 l3.length cap3] W fun e w' => e = .returned (.bool true) ∧ Chg [] W w' := by
  have HAW := Lib.hid (awake_am W)
  have H1 := Lib.hid HG
  have H2 := Lib.hid HW
  have H3 := Lib.hid HW3
  have hlo := HG.lo
  have hhi := HG.hi
  clear HG HW HW3
  by_cases hn : n < 2 ∨ 32768 < n
  · have HLO := Lib.hid (fun w => lay_out (W := w) n hn (.slice A L.length cap))
    rcases hn with hn | hn
    · have hd : decide (n < 2) = true := decide_eq_true hn
      go_enter Try.func3, Try.ntmps3
      go_wp2_with (first | (go_at_call 9; refine HAW.out.mono ?_; rintro e w1 ⟨rfl, hc1⟩; have HC1 := Lib.hid hc1; clear hc1) | (go_at_call 10; refine (HLO.out _).mono ?_; rintro e w2 ⟨rfl, hc2⟩; have HC2 := Lib.hid hc2; clear hc2))
      go_ret
      exact ⟨rfl, HC1.out.trans HC2.out⟩
    · have hd : decide (n < 2) = false := decide_eq_false (by omega)
      have hd2 : decide (32768 < n) = true := decide_eq_true hn
      go_enter Try.func3, Try.ntmps3
      go_wp2_with (first | (go_at_call 9; refine HAW.out.mono ?_; rintro e w1 ⟨rfl, hc1⟩; have HC1 := Lib.hid hc1; clear hc1) | (go_at_call 10; refine (HLO.out _).mono ?_; rintro e w2 ⟨rfl, hc2⟩; have HC2 := Lib.hid hc2; clear hc2))
      go_ret
      exact ⟨rfl, HC1.out.trans HC2.out⟩
  · obtain ⟨m, rfl⟩ : ∃ m : Nat, n = (m : Int) := ⟨n.toNat, by omega⟩
    go_enter Try.func3, Try.ntmps3
    go_wp2_with fail
    refine HAW.out.mono ?_
    rintro e w1 ⟨rfl, hc1⟩
    have HC1 := Lib.hid hc1
    have HLI := Lib.hid (lay_in (W := w1) m (by omega) (by omega) A cap L (H1.out.rd.keep hc1) H1.out.ok)
    clear hc1
    go_wp2_with fail
    refine HLI.out.mono ?_
    rintro e w2 ⟨p, q, rfl, htw⟩
    have HC2 := Lib.hid (HC1.out.trans htw.chg)
    generalize layS m L = S at htw
    have HT2 := Lib.hid htw
    obtain ⟨h, c, sv, cs, lv, fv, hm, _, _, _, _⟩ := htw.ex
    have hok := hm.ok
    have HWS := Lib.hid (words_am hm B cap2 l (H2.out.rd.keep HC2.out) H2.out.wds H2.out.len)
    clear htw hm
    go_wp2_with fail
    refine HWS.out.mono ?_
    rintro e w3 ⟨ov, rfl, hc3, hown⟩
    obtain ⟨oa, oc, rfl⟩ := ownsRow_slice hown
    have hlw := lawWords_wd hok H2.out.wds
    have hll := lawWords_len S l
    generalize lawWords S l = own at hown hlw hll
    have ht3 : TW w1 w3 p q S S (Value.slice oa own.length oc).ownBlock.toList := HT2.out.grow hc3 (by simp) (fun k hk => by
      rw [Option.mem_toList] at hk
      exact ⟨(hown.lt k hk).2, .inr (hown.lt k hk).1⟩)
    have HT3 := Lib.hid ht3
    have HO3 := Lib.hid hown
    have HLW := Lib.hid hlw
    have hem : (w3.alloc (.cells #[] 52)).ownsRow w3.heap.size 52 1 (.slice (some ⟨w3.heap.size, 0, none⟩) 0 0) 0 [] :=
      ⟨rfl, .inr ⟨w3.heap.size, 0, #[], rfl, Nat.le_refl _, heap_alloc_new _ _, Nat.le_refl _, by unfold maxLen; omega, rfl, rfl⟩⟩
    have HEM := Lib.hid hem
    have HSRC := Lib.hid (hown.alloc (.cells #[] 52))
    obtain ⟨i0, hi, hz0, hz1, hz2⟩ := info_parts info_word
    have hsz3 : w3.heap.size ≤ (w3.alloc (.cells #[] 52)).heap.size := by rw [size_alloc]; omega
    clear hc3 hown hlw ht3 HWS HT2 hem
    go_wp2_with (at_builtin; go_loud (refine wpList_append_row rfl (.tmp 34) (.tmp 35) 23 rfl w3.heap.size 52 i0 (.int .u64 0) 1 8 Try.underlying23 hi hz0 hz1 hz2 rfl (by decide) _ _ _ rfl HEM.out _ _ _ (words own) rfl HSRC.out (ints_oneCell .u64 _) (by unfold maxLen; omega) (by omega) (by omega) ?_); intro v4 w4 hown4 hgrow4 _; have hch4 : Chg [] w3 w4 := (((Chg.refl [] w3).alloc _).grown hgrow4 (fun k hk => .inr (Nat.le_of_eq (Option.some.inj (show some w3.heap.size = some k from hk))))); obtain ⟨va, vc, hv4⟩ := ownsRow_slice hown4; subst hv4; have HO4 := Lib.hid hown4; have HC4 := Lib.hid hch4; clear hown4 hgrow4 hch4)
    have ht4 := HT3.out.keep HC4.out
    have ho4 := ownsRow_chg HO3.out HC4.out (by simp)
    have HCO := Lib.hid (tw_collect ht4 _ own (own_low (by simpa using HO4.out) (Nat.zero_le _)) HLW.out (by omega))
    have HO4' := Lib.hid ho4
    clear ht4 ho4 HC4 HO4 HEM HSRC HT3 HO3
    have hnwl := now_len S own
    have hnww := now_wd hok HLW.out
    have HNW := Lib.hid hnww
    clear hnww
    go_wp2_with fail
    refine HCO.out.mono ?_
    rintro e w5 ⟨xv, rfl, ht5, hs5, hx5⟩
    obtain ⟨xa, xc, rfl⟩ := ownsRow_slice hx5
    have ho5 := hs5.row HO4'.out (fun k hk => by rw [Option.mem_toList]; exact hk)
    have HRC := Lib.hid (tw_rcollect ht5 _ own (own_low ho5 (Nat.zero_le _)) HLW.out (by omega))
    have HX5 := Lib.hid hx5
    clear ht5 hs5 hx5 ho5 HCO HO4'
    go_wp2_with fail
    refine HRC.out.mono ?_
    rintro e w6 ⟨yv, rfl, ht6, hs6, hy6⟩
    obtain ⟨ya, yc, rfl⟩ := ownsRow_slice hy6
    have hx6 := hs6.row HX5.out (fun k hk => by rw [List.mem_append, Option.mem_toList]; exact .inl hk)
    have HT6 := Lib.hid ht6
    have HX6 := Lib.hid hx6
    have heq := fun (b1 b2 : Nat) (v1 v2 : Value) (h1 : w6.ownsRow b1 52 1 v1 own.length (words (S.now own))) (h2 : w6.ownsRow b2 52 1 v2 own.length (words (S.now own))) => equal_am (w := w6) (xs := S.now own) (by rw [now_len]; exact h1) (by rw [now_len]; exact h2) (by rw [now_len]; omega)
    have HEQ := Lib.hid (heq _ _ _ _ hx6 hy6)
    have HSM := Lib.hid (show ∀ n, Calls Try.prog 15 #[.pointer (some ⟨p, 0, none⟩), .pointer (some ⟨q, 0, none⟩)] (w6.drewN n) fun e w' => e = .returned (.bool true) ∧ Chg [] (w6.drewN n) w' from fun n => by
      obtain ⟨h', c', sv', cs', lv', fv', ha, hb, _⟩ := (ht6.keep ((Chg.refl [] w6).drewN n)).ex
      exact same_am ha hb)
    clear ht6 hs6 hy6 hx6 heq HX5 HRC
    go_upto_region 10 with (first | (go_at_call 13; refine HEQ.out.mono ?_; rintro e w7 ⟨rfl, ⟨n7, rfl⟩⟩) | (go_at_call 15; refine (HSM.out _).mono ?_; rintro e w8 ⟨rfl, hc8⟩; have HC8 := Lib.hid hc8; clear hc8))
    have hc68 := ((Chg.refl [] w6).drewN n7).trans HC8.out
    have ht8 := HT6.out.keep hc68
    have HX8 := Lib.hid (ownsRow_chg HX6.out hc68 (by simp))
    have HT8 := Lib.hid ht8
    obtain ⟨h8, c8, sv8, cs8, lv8, fv8, hm8, _, _, _, _⟩ := ht8.ex
    have hok8 := hm8.ok
    have HW8 := Lib.hid (words_am hm8 B3 cap3 l3 (H3.out.rd.keep (HC1.out.trans ht8.chg)) H3.out.wds H3.out.len)
    clear hc68 ht8 hm8 HC8 HSM HEQ HT6 HX6
    go_wp2_with fail
    refine HW8.out.mono ?_
    rintro e w9 ⟨wv, rfl, hc9, hown9⟩
    obtain ⟨wa, wc, rfl⟩ := ownsRow_slice hown9
    have hlw9 := lawWords_wd hok8 H3.out.wds
    have hll9 := lawWords_len (S.coll own) l3
    generalize lawWords (S.coll own) l3 = own9 at hown9 hlw9 hll9
    have HO9 := Lib.hid hown9
    have HX9 := Lib.hid (ownsRow_chg HX8.out hc9 (by simp))
    have HC9 := Lib.hid hc9
    have hsz9 := hc9.size
    have hw10 : ∀ x ∈ own9 ++ S.now own, Wd x := by
      intro x hx
      rcases List.mem_append.1 hx with h | h
      · exact hlw9 x h
      · exact HNW.out x h
    have HW10 := Lib.hid hw10
    clear hc9 hown9 hlw9 HX8 HW8 hw10
    go_wp2_with (at_builtin; go_loud (refine wpList_append_row rfl (.tmp 52) (.tmp 53) 23 rfl w8.heap.size 52 i0 (.int .u64 0) 1 8 Try.underlying23 hi hz0 hz1 hz2 rfl (by decide) _ _ _ rfl HO9.out _ _ _ (words (S.now own)) rfl HX9.out (ints_oneCell .u64 _) (by unfold maxLen; omega) (by omega) (by omega) ?_); intro v10 w10 hown10 hgrow10 _; have hch10 : Chg [] w8 w10 := HC9.out.grown hgrow10 (fun k hk => .inr (HO9.out.lt k hk).1); obtain ⟨va, vc, hv10⟩ := ownsRow_slice hown10; subst hv10; have HO10 := Lib.hid hown10; have HC10 := Lib.hid hch10; clear hown10 hgrow10 hch10)
    have hl10 : (own9 ++ S.now own).length = own9.length + own.length := by rw [List.length_append, now_len]
    have ho10 : w10.ownsRow w8.heap.size 52 1 (.slice va (own9.length + own.length) vc) (own9.length + own.length) (words (own9 ++ S.now own)) := by
      have h := HO10.out
      unfold words at h ⊢
      rw [List.map_append]
      exact h
    rw [← hl10] at ho10 ⊢
    generalize own9 ++ S.now own = own2 at ho10 HW10 hl10 ⊢
    have ht10 : TW w1 w10 p q (S.coll own) (S.coll own) (Value.slice va own2.length vc).ownBlock.toList := HT8.out.grow HC10.out (by simp) (fun k hk => by
      rw [Option.mem_toList] at hk
      exact ⟨(ho10.lt k hk).2, .inr (ho10.lt k hk).1⟩)
    have HCO := Lib.hid (tw_collect ht10 _ own2 (own_low ho10 (Nat.zero_le _)) HW10.out (by omega))
    have HO11 := Lib.hid ho10
    generalize S.coll own = S2 at *
    have hl11 : own2.length ≤ 120 := by omega
    clear hl10
    clear ho10 ht10 HO10 HC10 HT8 HO9 HX9 HC9 HNW hnwl
    go_wp2_with fail
    refine HCO.out.mono ?_
    rintro e w11 ⟨zv, rfl, ht11, hs11, hz11⟩
    obtain ⟨za, zc, rfl⟩ := ownsRow_slice hz11
    have ho11 := hs11.row HO11.out (fun k hk => by rw [Option.mem_toList]; exact hk)
    have HRC := Lib.hid (tw_rcollect ht11 _ own2 (own_low ho11 (Nat.zero_le _)) HW10.out (by omega))
    have HZ11 := Lib.hid hz11
    clear ht11 hs11 hz11 ho11 HCO HO11
    go_wp2_with fail
    refine HRC.out.mono ?_
    rintro e w12 ⟨yv2, rfl, ht12, hs12, hy12⟩
    obtain ⟨ya2, yc2, rfl⟩ := ownsRow_slice hy12
    have hz12 := hs12.row HZ11.out (fun k hk => by rw [List.mem_append, Option.mem_toList]; exact .inl hk)
    have HT12 := Lib.hid ht12
    have heq := fun (b1 b2 : Nat) (v1 v2 : Value) (h1 : w12.ownsRow b1 52 1 v1 own2.length (words (S2.now own2))) (h2 : w12.ownsRow b2 52 1 v2 own2.length (words (S2.now own2))) => equal_am (w := w12) (xs := S2.now own2) (by rw [now_len]; exact h1) (by rw [now_len]; exact h2) (by rw [now_len]; omega)
    have HEQ := Lib.hid (heq _ _ _ _ hz12 hy12)
    have HSM := Lib.hid (show ∀ n, Calls Try.prog 15 #[.pointer (some ⟨p, 0, none⟩), .pointer (some ⟨q, 0, none⟩)] (w12.drewN n) fun e w' => e = .returned (.bool true) ∧ Chg [] (w12.drewN n) w' from fun n => by
      obtain ⟨h', c', sv', cs', lv', fv', ha, hb, _⟩ := (ht12.keep ((Chg.refl [] w12).drewN n)).ex
      exact same_am ha hb)
    clear ht12 hs12 hy12 hz12 heq HZ11 HRC
    go_wp2_with (first | (go_at_call 13; refine HEQ.out.mono ?_; rintro e w13 ⟨rfl, ⟨n13, rfl⟩⟩) | (go_at_call 15; refine (HSM.out _).mono ?_; rintro e w14 ⟨rfl, hc14⟩; have HC14 := Lib.hid hc14; clear hc14))
    go_ret
    exact ⟨rfl, HC1.out.trans ((HT12.out.chg.drewN n13).trans HC14.out)⟩

end Go.Proofs.Ytkjggomkkfknhaa
