import Derived.Test.YtkjggomkkfknhaaFrees
import Derived.Test.YtkjggomkkfknhaaAlike
/- CopierSame. -/
namespace Go.Proofs.Ytkjggomkkfknhaa
open Go.RowKit

theorem now_wd {S : St} (hS : S.ok) {roots : List Int} (hw : ∀ x ∈ roots, Wd x) : ∀ x ∈ S.now roots, Wd x := by
  intro x hx
  unfold St.now at hx
  rw [List.mem_map] at hx
  obtain ⟨y, hy, rfl⟩ := hx
  cases hf : S.find y with
  | none => rw [mv_none hf]; exact hw y hy
  | some q =>
    rw [mv_lead (i := q.1) (d := q.2) hf]
    have hm := root_mem hy (i := q.1) (d := q.2) hf
    obtain ⟨hk, hg⟩ := idx_get hm
    obtain ⟨_, b, hb, _, hd⟩ := (find_iff S y q.1 q.2).1 hf
    have hdl := dist_le hd
    have hbb : S.blk q.1 = b := by unfold St.blk; rw [List.getD_eq_getElem?_getD, hb]; rfl
    have := npos_le hS (good_reach S roots) hk (d := q.2) (by rw [hg, hbb]; exact hdl)
    unfold Wd ptr
    omega

theorem now_len (S : St) (roots : List Int) : (S.now roots).length = roots.length := by unfold St.now; simp

theorem node_wd {S : St} {G : List Nat} {x : Int} (hx : Wd x) : Wd (node S G x).w := by
  unfold node
  cases S.find x with
  | none => exact hx
  | some q => unfold Wd; dsimp only; omega

theorem stray_still {S : St} {G : List Nat} {x : Int} (h : strayN (node S G x) = false) : still S x := by
  intro hf
  unfold node at h
  rw [hf] at h
  unfold strayN at h
  simp only [Bool.and_eq_false_iff, decide_eq_false_iff_not, Bool.not_eq_false'] at h
  rcases h with (h | h) | h
  · exact absurd (show (-1 : Int) < 0 by omega) h
  · left; unfold isNum at h; simpa using h
  · right; simpa using h

/-- are there strays in the k-th block that is met? -/
def strayB (S : St) (g : List Nat) (k : Nat) : Bool := decide ((S.blk (g.getD k 0)).tag ≠ 202) && (nodesOf S g (S.blk (g.getD k 0))).any strayN

theorem calm_of {S : St} {roots : List Int} (h1 : (roots.map (node S (S.reach roots))).any strayN = false) (h2 : ∀ k, k < (S.reach roots).length → strayB S (S.reach roots) k = false) : Calm S roots := by
  refine ⟨fun w hw => ?_, fun i hi w hw => ?_⟩
  · have := List.any_eq_false.1 h1 (node S (S.reach roots) w) (List.mem_map_of_mem hw)
    exact stray_still (by simpa using this)
  · obtain ⟨k, hk, rfl⟩ := List.mem_iff_getElem.1 hi
    have h3 := h2 k hk
    have hg : (S.reach roots).getD k 0 = (S.reach roots)[k] := by rw [List.getD_eq_getElem?_getD, List.getElem?_eq_getElem hk]; rfl
    unfold strayB at h3
    rw [hg] at h3
    unfold Blk.words at hw
    split at hw
    · cases hw
    · rename_i ht
      rw [decide_eq_true ht, Bool.true_and] at h3
      unfold nodesOf at h3
      rw [if_neg ht] at h3
      have := List.any_eq_false.1 h3 (node S (S.reach roots) w) (List.mem_map_of_mem hw)
      exact stray_still (by simpa using this)

theorem nodesOf_wd {S : St} {G : List Nat} {b : Blk} (hb : ∀ x ∈ b.fs, Wd x) : ∀ n ∈ nodesOf S G b, Wd n.w := by
  intro n hn
  unfold nodesOf at hn
  split at hn
  · rw [List.mem_map] at hn
    obtain ⟨x, hx, rfl⟩ := hn
    exact hb x hx
  · rw [List.mem_map] at hn
    obtain ⟨x, hx, rfl⟩ := hn
    exact node_wd (hb x hx)

theorem row_at {w : World} {base : Nat} {e : TypeId} {a : Option Addr} {n cap : Nat} {xs : List Value} (hr : w.ownsRow base e 1 (.slice a n cap) n xs) {k : Nat} {u : Value} (hk : xs[k]? = some u) :
    ∃ g, a = some ⟨g, 0, none⟩ ∧ g < w.heap.size ∧ w.cell? ⟨g, k, none⟩ = some u := by
  have hl := hr.1
  have hkl := (List.getElem?_eq_some_iff.1 hk).1
  obtain ⟨g, cap', hv, _, hlt, _, hc, _⟩ := ownsRow_shape hr (by omega)
  simp only [Value.slice.injEq] at hv
  exact ⟨g, hv.1, hlt, hc k u hk⟩

theorem nats_at {l : List Nat} {k n : Nat} (h : l[k]? = some n) : (nats l)[k]? = some (.int .i64 (n : Int)) := by
  unfold nats; simp [h]

theorem FR.at {w : World} {B T : Nat} {v : Value} {rows : List (List Nd × Value)} (H : FR w B T v rows) {l : List (List Nd)} (hl : rows.map (·.1) = l) {k : Nat} {nd : List Nd} (hk : l[k]? = some nd) :
    ∃ lv, (rows.map (·.2))[k]? = some lv ∧ w.ownsRow B 88 3 lv nd.length (ndCs nd) := by
  subst hl
  rw [List.getElem?_map] at hk
  cases hr : rows[k]? with
  | none => rw [hr] at hk; cases hk
  | some q =>
    rw [hr] at hk
    have e : q.1 = nd := by simpa using hk
    subst e
    exact ⟨q.2, by rw [List.getElem?_map, hr]; rfl, (H.each q (List.mem_of_getElem? hr)).1⟩

theorem same_all {S : St} (hS : S.ok) {roots : List Int} (hc : Calm S roots) :
    ((S.coll roots).reach (S.now roots)).length = (S.reach roots).length ∧
    ((S.coll roots).reach (S.now roots)).map (fun i => ((S.coll roots).blk i).tag) = (S.reach roots).map (fun i => (S.blk i).tag) ∧
    ((S.coll roots).reach (S.now roots)).map (fun i => nodesOf (S.coll roots) ((S.coll roots).reach (S.now roots)) ((S.coll roots).blk i)) = (S.reach roots).map (fun i => nodesOf S (S.reach roots) (S.blk i)) ∧
    (S.now roots).map (node (S.coll roots) ((S.coll roots).reach (S.now roots))) = roots.map (node S (S.reach roots)) := by
  have hr := reach_moved hS hc
  refine ⟨by rw [hr]; simp, ?_, ?_, same_roots hS hc⟩
  · rw [hr]
    apply List.ext_getElem (by simp)
    intro k h1 h2
    simp only [List.getElem_map, List.getElem_range]
    exact coll_tag (by simpa using h2)
  · have key : ∀ k, k < (S.reach roots).length → nodesOf (S.coll roots) ((S.coll roots).reach (S.now roots)) ((S.coll roots).blk k) = nodesOf S (S.reach roots) (S.blk ((S.reach roots).getD k 0)) := by
      intro k hk
      rw [same_fields hS hc hk, List.getD_eq_getElem?_getD, List.getElem?_eq_getElem hk]; rfl
    conv => lhs; rw [List.map_congr_left (g := fun k => nodesOf S (S.reach roots) (S.blk ((S.reach roots).getD k 0))) (fun k hk => key k (by rw [hr] at hk; simpa using hk))]
    rw [hr]
    apply List.ext_getElem (by simp)
    intro k h1 h2
    have hk : k < (S.reach roots).length := by simpa using h2
    simp only [List.getElem_map, List.getElem_range]
    rw [List.getD_eq_getElem?_getD, List.getElem?_eq_getElem hk]; rfl

set_option maxHeartbeats 4000000 in
set_option maxRecDepth 100000 in
theorem sameLaw_am (W : World) (n : Int) (A : Option Addr) (cap : Nat) (L : List Bk) (HG : Given W n A L) (B : Option Addr) (cap2 : Nat) (l : List Int) (HW : GivenW W B l) :
    Calls Try.prog 5 #[.int .i64 n, .slice A L.length cap, .slice B l.length cap2] W fun e w' => e = .returned (.bool true) ∧ Chg [] W w' := by
  have HAW := Lib.hid (awake_am W)
  have H1 := Lib.hid HG
  have H2 := Lib.hid HW
  have hlo := HG.lo
  have hhi := HG.hi
  clear HG HW
  by_cases hn : n < 2 ∨ 32768 < n
  · have HLO := Lib.hid (fun w => lay_out (W := w) n hn (.slice A L.length cap))
    rcases hn with hn | hn
    · have hd : decide (n < 2) = true := decide_eq_true hn
      go_enter Try.func5, Try.ntmps5
      go_wp2_with (first | (go_at_call 9; refine HAW.out.mono ?_; rintro e w1 ⟨rfl, hc1⟩; have HC1 := Lib.hid hc1; clear hc1) | (go_at_call 10; refine (HLO.out _).mono ?_; rintro e w2 ⟨rfl, hc2⟩; have HC2 := Lib.hid hc2; clear hc2))
      go_ret
      exact ⟨rfl, HC1.out.trans HC2.out⟩
    · have hd : decide (n < 2) = false := decide_eq_false (by omega)
      have hd2 : decide (32768 < n) = true := decide_eq_true hn
      go_enter Try.func5, Try.ntmps5
      go_wp2_with (first | (go_at_call 9; refine HAW.out.mono ?_; rintro e w1 ⟨rfl, hc1⟩; have HC1 := Lib.hid hc1; clear hc1) | (go_at_call 10; refine (HLO.out _).mono ?_; rintro e w2 ⟨rfl, hc2⟩; have HC2 := Lib.hid hc2; clear hc2))
      go_ret
      exact ⟨rfl, HC1.out.trans HC2.out⟩
  · obtain ⟨m, rfl⟩ : ∃ m : Nat, n = (m : Int) := ⟨n.toNat, by omega⟩
    go_enter Try.func5, Try.ntmps5
    go_wp2_with fail
    refine HAW.out.mono ?_
    rintro e w1 ⟨rfl, hc1⟩
    have HC1 := Lib.hid hc1
    have HLI := Lib.hid (lay_in (W := w1) m (by omega) (by omega) A cap L (H1.out.rd.keep hc1) H1.out.ok)
    clear hc1
    go_wp2_with fail
    refine HLI.out.mono ?_
    rintro e w2 ⟨p, q, rfl, htw⟩
    obtain ⟨h, c, sv, cs, lv, fv, hm, _, _, hf, _⟩ := htw.ex
    have HF := Lib.hid (show ∀ k ∈ foot p h c sv, W.heap.size ≤ k from fun k hk => Nat.le_trans HC1.out.size (hf k hk))
    have HC2 := Lib.hid (HC1.out.trans htw.chg)
    generalize layS m L = S at hm
    have HM := Lib.hid hm
    have HWS := Lib.hid (words_am hm B cap2 l (H2.out.rd.keep HC2.out) H2.out.wds H2.out.len)
    clear htw hm hf
    go_wp2_with fail
    refine HWS.out.mono ?_
    rintro e w3 ⟨ov, rfl, hc3, hown⟩
    obtain ⟨oa, oc, rfl⟩ := ownsRow_slice hown
    have hm3 := HM.out.chg hc3 (by simp)
    have HC3 := Lib.hid (HC2.out.trans hc3)
    have hlw := lawWords_wd HM.out.ok H2.out.wds
    have hll := lawWords_len S l
    generalize lawWords S l = own at hown hlw hll
    have HGR := Lib.hid (graph_am hm3 _ own (own_low hown (Nat.zero_le _)) hlw (by omega))
    have HM3 := Lib.hid hm3
    have HO3 := Lib.hid hown
    have HLW := Lib.hid hlw
    clear hc3 hown hm3 hlw HWS HM HLI HAW HC1 HC2
    go_wp2_with fail
    refine HGR.out.mono ?_
    rintro e w4 ⟨f1, t1, m1, rows, rfl, hc4, hf1, ht1, hr1, hrows⟩
    obtain ⟨f1a, f1c, rfl⟩ := ownsRow_slice hf1
    obtain ⟨t1a, t1c, rfl⟩ := ownsRow_slice ht1
    obtain ⟨m1a, m1c, rfl⟩ := ownsRow_slice hr1.row
    have hgl : (S.reach own).length ≤ 32768 := by have h5 := (good_reach S own).length_le; have h6 := HM3.out.count; omega
    have hrl : rows.length = (S.reach own).length := by have h1 := congrArg List.length hrows; simpa using h1
    have HGD := Lib.hid (good_reach S own)
    have HCALM := Lib.hid (calm_of (S := S) (roots := own))
    have HSR := Lib.hid (fun hc => same_roots HM3.out.ok (roots := own) hc)
    obtain ⟨g, hg⟩ : ∃ g, g = S.reach own := ⟨_, rfl⟩
    rw [← hg] at ht1 hrows hrl hgl HGD HCALM HSR hf1 ⊢
    rw [hrl]
    have HC4 := Lib.hid (HC3.out.trans hc4)
    have HM4 := Lib.hid (HM3.out.chg hc4 (by simp))
    have HO4 := Lib.hid (ownsRow_chg HO3.out hc4 (by simp))
    have HF1 := Lib.hid hf1
    have HT1 := Lib.hid ht1
    have HR1 := Lib.hid hr1
    have HRW := Lib.hid (And.intro hrows hrl)
    have HGE := Lib.hid hg
    have HSZ := Lib.hid hc4.size
    clear hc4 hf1 ht1 hr1 hrows hrl hg HGR HO3 HC3
    have htag : ∀ k b, g[k]? = some b → ∃ gt, t1a = some ⟨gt, 0, none⟩ ∧ w4.cell? ⟨gt, k, none⟩ = some (.int .i64 (((S.blk b).tag : Nat) : Int)) := by
      intro k b hb
      obtain ⟨gt, e, _, hc⟩ := row_at HT1.out (nats_at (n := (S.blk b).tag) (k := k) (by rw [List.getElem?_map, hb]; rfl))
      exact ⟨gt, e, hc⟩
    have hfld : ∀ k b, g[k]? = some b → ∃ gm la lc, m1a = some ⟨gm, 0, none⟩ ∧ w4.cell? ⟨gm, k, none⟩ = some (.slice la (nodesOf S g (S.blk b)).length lc) ∧ w4.ownsRow w3.heap.size 88 3 (.slice la (nodesOf S g (S.blk b)).length lc) (nodesOf S g (S.blk b)).length (ndCs (nodesOf S g (S.blk b))) := by
      intro k b hb
      obtain ⟨lv, h1, h2⟩ := HR1.out.at HRW.out.1 (k := k) (nd := nodesOf S g (S.blk b)) (by rw [List.getElem?_map, hb]; rfl)
      obtain ⟨la, lc, rfl⟩ := ownsRow_slice h2
      obtain ⟨gm, e, _, hc⟩ := row_at HR1.out.row h1
      exact ⟨gm, la, lc, e, hc, h2⟩
    have HTAG := Lib.hid htag
    have HFLD := Lib.hid hfld
    clear htag hfld
    go_wp2_with fail
    go_loopg [47] g.length (fun gh v wr => ∃ k : Nat, gh = g.length - k ∧ k ≤ g.length ∧ v = .int .i64 ((k : Nat) : Int) ∧ Hid (∀ j, j < k → strayB S g j = false) ∧ w4 = wr)
    case atStart => exact ⟨0, rfl, Nat.zero_le _, rfl, Lib.hid (fun j hj => absurd hj (Nat.not_lt_zero _)), rfl⟩
    case round =>
      obtain ⟨k, hgk, hk, rfl, HS, rfl⟩ := hrel
      by_cases hlt : k < g.length
      · have hdec : decide ((k : Int) < (g.length : Int)) = true := decide_eq_true (by omega)
        obtain ⟨b, hb⟩ : ∃ b, g[k]? = some b := ⟨_, List.getElem?_eq_getElem hlt⟩
        have hbl : b < S.L.length := HGD.out.lt b (List.mem_of_getElem? hb)
        obtain ⟨gt, rfl, ct⟩ := HTAG.out k b hb
        obtain ⟨gm, la, lc, rfl, cf, hrf⟩ := HFLD.out k b hb
        have hbo := HM4.out.blkOk hbl
        have hnl := nodesOf_len S g (S.blk b)
        have hsz := hbo.size
        have HST := Lib.hid (stray_am (w := w4) p hrf (by omega) (nodesOf_wd hbo.words))
        have hsd : strayB S g k = (decide ((S.blk b).tag ≠ 202) && (nodesOf S g (S.blk b)).any strayN) := by
          unfold strayB
          rw [List.getD_eq_getElem?_getD, hb]; rfl
        by_cases ht : (S.blk b).tag = 202
        · have hdt : ((((S.blk b).tag : Nat) : Int) != 202) = false := bne_eq_false_iff_eq.2 (by omega)
          rw [decide_eq_false (by simpa using ht), Bool.false_and] at hsd
          have HSD := Lib.hid hsd
          clear hsd hrf hnl hb ht
          go_wp2_with fail
          go_roundg (g.length - (k + 1))
          case measure => omega
          case rel =>
            refine ⟨k + 1, rfl, by omega, by go_num, Lib.hid (fun j hj => ?_), rfl⟩
            by_cases e : j = k
            · rw [e]; exact HSD.out
            · exact HS.out j (by omega)
        · have hdt : ((((S.blk b).tag : Nat) : Int) != 202) = true := bne_iff_ne.2 (by omega)
          rw [decide_eq_true ht, Bool.true_and] at hsd
          have HSD := Lib.hid hsd
          clear hsd hrf hnl hb ht
          cases hs : (nodesOf S g (S.blk b)).any strayN with
          | true =>
            rw [hs] at HST
            clear hs
            go_wp2_with (go_at_call 19; refine HST.out.mono ?_; rintro e w' ⟨rfl, hw'⟩; obtain rfl := hw')
            go_ret
            exact ⟨rfl, HC4.out⟩
          | false =>
            rw [hs] at HST HSD
            clear hs
            go_wp2_with (go_at_call 19; refine HST.out.mono ?_; rintro e w' ⟨rfl, hw'⟩; obtain rfl := hw')
            go_roundg (g.length - (k + 1))
            case measure => omega
            case rel =>
              refine ⟨k + 1, rfl, by omega, by go_num, Lib.hid (fun j hj => ?_), rfl⟩
              by_cases e : j = k
              · rw [e]; exact HSD.out
              · exact HS.out j (by omega)
      · obtain rfl : k = g.length := by omega
        have hdec : decide ((g.length : Int) < (g.length : Int)) = false := decide_eq_false (by omega)
        have hfw : ∀ n ∈ own.map (node S g), Wd n.w := by
          intro n hn
          rw [List.mem_map] at hn
          obtain ⟨x, hx, rfl⟩ := hn
          exact node_wd (HLW.out x hx)
        have hfl : (own.map (node S g)).length = own.length := by simp
        have hf1 := HF1.out
        rw [← hfl] at hf1
        have HST := Lib.hid (stray_am (w := w4) p hf1 (by omega) hfw)
        rw [hfl] at HST
        clear hfw hf1 hfl
        cases hs : (own.map (node S g)).any strayN with
        | true =>
          rw [hs] at HST
          clear hs
          go_wp2_with (go_at_call 19; refine HST.out.mono ?_; rintro e w' ⟨rfl, hw'⟩; obtain rfl := hw')
          go_ret
          exact ⟨rfl, HC4.out⟩
        | false =>
          rw [hs] at HST
          have HCA := Lib.hid (HCALM.out hs HS.out)
          have HCO := Lib.hid (collect_am HM4.out _ own (own_low HO4.out (Nat.zero_le _)) HLW.out (by omega))
          clear hs
          go_wp2_with (go_at_call 19; refine HST.out.mono ?_; rintro e w' ⟨rfl, hw'⟩; obtain rfl := hw')
          refine HCO.out.mono ?_
          rintro e w5 ⟨xv, rfl, hc5, ⟨sv5, cs5, hm5, _⟩, hx5⟩
          obtain ⟨xa, xc, rfl⟩ := ownsRow_slice hx5
          have hltf := HM4.out.lts
          have hW3 := HSZ.out
          have hlt3 : ∀ k ∈ foot p h c sv, k < w3.heap.size := HM3.out.lts
          have hsa := same_all HM3.out.ok HCA.out
          have hnl := now_len S own
          have hx5' := own_low hx5 (Nat.zero_le _)
          rw [← hnl] at hx5'
          have HG2 := Lib.hid (graph_am hm5 _ (S.now own) hx5' (now_wd HM3.out.ok HLW.out) (by rw [hnl]; omega))
          rw [hnl] at HG2
          have hkeep : ∀ {e : TypeId} {sz : Nat} {v : Value} {n : Nat} {xs : List Value}, w4.ownsRow w3.heap.size e sz v n xs → w5.ownsRow w3.heap.size e sz v n xs := fun hr => ownsRow_chg hr hc5 (fun k hk hm => by
            have q1 := (hr.lt k hk).1
            have q2 := hlt3 k hm
            omega)
          have HF5 := Lib.hid (hkeep HF1.out)
          have HT5 := Lib.hid (hkeep HT1.out)
          have HR5 := Lib.hid (HR1.out.keep (W := w3) hc5 (fun k hk => .inl (hlt3 k hk)))
          have HC5 := Lib.hid (HC4.out.over hc5 HF.out)
          have HSA := Lib.hid hsa
          clear hc5 hm5 hx5 hx5' hsa hkeep HCO HST HFLD HTAG hltf
          go_wp2_with fail
          refine HG2.out.mono ?_
          rintro e w6 ⟨f2, t2, m2, rows2, rfl, hc6, hf2, ht2, hr2, hrows2⟩
          obtain ⟨hs1, hs2, hs3, hs4⟩ := HSA.out
          rw [← HGE.out] at hs1 hs2 hs3 hs4
          rw [hs2] at ht2
          rw [hs3] at hrows2
          rw [hs4] at hf2
          rw [hs1] at ht2
          obtain ⟨f2a, f2c, rfl⟩ := ownsRow_slice hf2
          obtain ⟨t2a, t2c, rfl⟩ := ownsRow_slice ht2
          obtain ⟨m2a, m2c, rfl⟩ := ownsRow_slice hr2.row
          have hrl2 : rows2.length = g.length := by have h1 := congrArg List.length hrows2; simpa using h1
          rw [hrl2]
          have HF6 := Lib.hid (ownsRow_chg HF5.out hc6 (by simp))
          have HT6 := Lib.hid (ownsRow_chg HT5.out hc6 (by simp))
          have HR6 := Lib.hid (HR5.out.keep (W := w3) hc6 (by simp))
          have HF7 := Lib.hid hf2
          have HT7 := Lib.hid ht2
          have HR7 := Lib.hid hr2
          have HRW2 := Lib.hid (And.intro hrows2 hrl2)
          have HC6 := Lib.hid (HC5.out.trans hc6)
          clear hs1 hs2 hs3 hs4 hc6 hf2 ht2 hr2 hrows2 hrl2 HG2 HSA HF5 HT5 HR5 HC5
          have hfl : (own.map (node S g)).length = own.length := by simp
          have hal1 := HF6.out
          have hal2 := HF7.out
          rw [← hfl] at hal1 hal2
          have HAL := Lib.hid (alike_am hal1 hal2 (by omega))
          rw [hfl] at HAL
          have hne : ((g.length : Int) != (g.length : Int)) = false := bne_eq_false_iff_eq.2 rfl
          clear hal1 hal2 hfl
          go_wp2_with (go_at_call 20; refine HAL.out.mono ?_; rintro e w' ⟨rfl, N0, rfl⟩)
          go_loopg [90] g.length (fun gh v wr => ∃ k N : Nat, gh = g.length - k ∧ k ≤ g.length ∧ v = .int .i64 ((k : Nat) : Int) ∧ wr = w6.drewN N)
          case atStart => exact ⟨0, N0, rfl, Nat.zero_le _, rfl, rfl⟩
          case round =>
            obtain ⟨k, N, hgk, hk, rfl, rfl⟩ := hrel
            by_cases hlt : k < g.length
            · have hdec : decide ((k : Int) < (g.length : Int)) = true := decide_eq_true (by omega)
              obtain ⟨b, hb⟩ : ∃ b, g[k]? = some b := ⟨_, List.getElem?_eq_getElem hlt⟩
              have hbl : b < S.L.length := HGD.out.lt b (List.mem_of_getElem? hb)
              obtain ⟨gt, rfl, _, ct⟩ := row_at HT6.out (nats_at (n := (S.blk b).tag) (k := k) (by rw [List.getElem?_map, hb]; rfl))
              obtain ⟨gu, rfl, _, cu⟩ := row_at HT7.out (nats_at (n := (S.blk b).tag) (k := k) (by rw [List.getElem?_map, hb]; rfl))
              obtain ⟨lv, q1, q2⟩ := HR6.out.at HRW.out.1 (k := k) (nd := nodesOf S g (S.blk b)) (by rw [List.getElem?_map, hb]; rfl)
              obtain ⟨lv2, q3, q4⟩ := HR7.out.at HRW2.out.1 (k := k) (nd := nodesOf S g (S.blk b)) (by rw [List.getElem?_map, hb]; rfl)
              obtain ⟨la, lc, rfl⟩ := ownsRow_slice q2
              obtain ⟨la2, lc2, rfl⟩ := ownsRow_slice q4
              have r6 := HR6.out.row
              have r7 := HR7.out.row
              rw [HRW.out.2] at r6
              rw [HRW2.out.2] at r7
              obtain ⟨gm, rfl, _, cm⟩ := row_at r6 q1
              obtain ⟨gn, rfl, _, cn⟩ := row_at r7 q3
              have hnl := nodesOf_len S g (S.blk b)
              have hsz := (HM4.out.blkOk hbl).size
              have hal : ∀ N, Calls Try.prog 20 #[.slice la (nodesOf S g (S.blk b)).length lc, .slice la2 (nodesOf S g (S.blk b)).length lc2] (w6.drewN N) fun e w' => e = .returned (.bool true) ∧ ∃ n, w' = (w6.drewN N).drewN n :=
                fun N => alike_am (w := w6.drewN N) q2 q4 (by omega)
              have e1 : ((((S.blk b).tag : Nat) : Int) != (((S.blk b).tag : Nat) : Int)) = false := bne_eq_false_iff_eq.2 rfl
              clear q1 q2 q3 q4 r6 r7 hnl hb
              go_upto_region 23 with fail
              refine region_quiet_at (by kernel_rfl) (by kernel_rfl) ?_
              repeat go_big_quiet_step ((go_at_call 20; exact Calls.quiet_of (hal _)))
              refine wpQuiet_nil ?_
              intro m3
              clear hal
              go_wp2_with fail
              go_roundg (g.length - (k + 1))
              case measure => omega
              case rel => exact ⟨k + 1, m3, rfl, by omega, by go_num, rfl⟩
            · obtain rfl : k = g.length := by omega
              have hdec : decide ((g.length : Int) < (g.length : Int)) = false := decide_eq_false (by omega)
              go_wp2_with fail
              go_ret
              exact ⟨rfl, HC6.out.drewN N⟩

end Go.Proofs.Ytkjggomkkfknhaa
