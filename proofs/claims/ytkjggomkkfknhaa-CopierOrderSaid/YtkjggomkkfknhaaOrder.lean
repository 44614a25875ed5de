import Derived.Test.YtkjggomkkfknhaaFrees
import Derived.BigQuiet
/- CopierOrder. -/
namespace Go.Proofs.Ytkjggomkkfknhaa
open Go.RowKit

def hit (S : St) (b : Nat) (x : Int) : Bool := match S.find x with | some q => q.1 == b | none => false
def foundA (S : St) (b : Nat) (own : List Int) (j : Nat) : Bool := (own.take j).any (hit S b)
def foundB (S : St) (b : Nat) (own : List Int) (g : List Nat) (k : Nat) : Bool := foundA S b own own.length || (g.take k).any fun c => (S.blk c).words.any (hit S b)
def foundC (S : St) (b : Nat) (own : List Int) (g : List Nat) (k : Nat) (l : List Int) (j : Nat) : Bool := foundB S b own g k || (l.take j).any (hit S b)

theorem hit_lds {S : St} {b : Nat} (hb : b < S.L.length) (x : Int) : ((S.lds x).1 == 2 * ((S.pos b : Nat) : Int)) = hit S b x := by
  unfold St.lds hit
  cases hx : S.find x with
  | none =>
    dsimp only
    have : 1 ≤ S.pos b := by unfold St.pos; omega
    exact beq_eq_false_iff_ne.2 (by omega)
  | some q =>
    dsimp only
    by_cases h : q.1 = b
    · rw [h]; simp
    · have h2 : S.pos q.1 ≠ S.pos b := fun e => h (pos_inj (find_lt hx) hb e)
      rw [beq_eq_false_iff_ne.2 (by omega), beq_eq_false_iff_ne.2 h]

theorem any_take_succ (f : Int → Bool) (l : List Int) {j : Nat} (hj : j < l.length) : (l.take (j + 1)).any f = ((l.take j).any f || f (wat l j)) := by
  rw [List.take_add_one, wat_get hj, List.any_append]; simp

theorem foundA_zero (S : St) (b : Nat) (own : List Int) : foundA S b own 0 = false := rfl
theorem foundA_succ (S : St) (b : Nat) (own : List Int) {j : Nat} (hj : j < own.length) : foundA S b own (j + 1) = (foundA S b own j || hit S b (wat own j)) := any_take_succ _ _ hj
theorem foundB_zero (S : St) (b : Nat) (own : List Int) (g : List Nat) : foundB S b own g 0 = foundA S b own own.length := by unfold foundB; simp
theorem foundC_zero (S : St) (b : Nat) (own : List Int) (g : List Nat) (k : Nat) (l : List Int) : foundC S b own g k l 0 = foundB S b own g k := by unfold foundC; simp
theorem foundC_succ (S : St) (b : Nat) (own : List Int) (g : List Nat) (k : Nat) (l : List Int) {j : Nat} (hj : j < l.length) : foundC S b own g k l (j + 1) = (foundC S b own g k l j || hit S b (wat l j)) := by
  unfold foundC; rw [any_take_succ _ _ hj, Bool.or_assoc]
theorem foundC_end (S : St) (b : Nat) (own : List Int) {g : List Nat} {k c : Nat} (hc : g[k]? = some c) {j : Nat} (hj : (S.blk c).words.length ≤ j) : foundC S b own g k (S.blk c).words j = foundB S b own g (k + 1) := by
  unfold foundC foundB
  rw [List.take_of_length_le hj, List.take_add_one, hc, List.any_append, ← Bool.or_assoc]; simp

theorem foundB_told {S : St} {own : List Int} {k b : Nat} (hb : (S.reach own)[k]? = some b) : foundB S b own (S.reach own) k = true := by
  unfold foundB foundA
  rw [Bool.or_eq_true]
  rcases told_reach S own k b hb with ⟨w, hw, d, hd⟩ | ⟨j, hj, c, hc, w, hw, d, hd⟩
  · left
    rw [List.take_length, List.any_eq_true]
    exact ⟨w, hw, by unfold hit; rw [hd]; simp⟩
  · right
    rw [List.any_eq_true]
    refine ⟨c, ?_, ?_⟩
    · have : (S.reach own).take k = (S.reach own).take k := rfl
      refine List.mem_iff_getElem?.2 ⟨j, ?_⟩
      rw [List.getElem?_take, if_pos hj, hc]
    · rw [List.any_eq_true]
      exact ⟨w, hw, by unfold hit; rw [hd]; simp⟩

set_option maxHeartbeats 4000000 in
set_option maxRecDepth 100000 in
theorem order_am (W : World) (n : Int) (A : Option Addr) (cap : Nat) (L : List Bk) (HG : Given W n A L) (B : Option Addr) (cap2 : Nat) (l : List Int) (HW : GivenW W B l) :
    Calls Try.prog 8 #[.int .i64 n, .slice A L.length cap, .slice B l.length cap2] W fun e w' => e = .returned (.bool true) ∧ Chg [] W w' := by
  have HAW := Lib.hid (awake_am W)
  have H1 := Lib.hid HG
  have H2 := Lib.hid HW
  have hlo := HG.lo
  have hhi := HG.hi
  clear HG HW
  by_cases hn : n < 2 ∨ 32768 < n
  · have HLO := Lib.hid (fun w => lay_out (W := w) n hn (.slice A L.length cap))
    rcases hn with hn | hn
    · have hd : decide (n < 2) = true := decide_eq_true hn
      go_enter Try.func8, Try.ntmps8
      go_wp2_with (first | (go_at_call 9; refine HAW.out.mono ?_; rintro e w1 ⟨rfl, hc1⟩; have HC1 := Lib.hid hc1; clear hc1) | (go_at_call 10; refine (HLO.out _).mono ?_; rintro e w2 ⟨rfl, hc2⟩; have HC2 := Lib.hid hc2; clear hc2))
      go_ret
      exact ⟨rfl, HC1.out.trans HC2.out⟩
    · have hd : decide (n < 2) = false := decide_eq_false (by omega)
      have hd2 : decide (32768 < n) = true := decide_eq_true hn
      go_enter Try.func8, Try.ntmps8
      go_wp2_with (first | (go_at_call 9; refine HAW.out.mono ?_; rintro e w1 ⟨rfl, hc1⟩; have HC1 := Lib.hid hc1; clear hc1) | (go_at_call 10; refine (HLO.out _).mono ?_; rintro e w2 ⟨rfl, hc2⟩; have HC2 := Lib.hid hc2; clear hc2))
      go_ret
      exact ⟨rfl, HC1.out.trans HC2.out⟩
  · obtain ⟨m, rfl⟩ : ∃ m : Nat, n = (m : Int) := ⟨n.toNat, by omega⟩
    go_enter Try.func8, Try.ntmps8
    go_wp2_with fail
    refine HAW.out.mono ?_
    rintro e w1 ⟨rfl, hc1⟩
    have HC1 := Lib.hid hc1
    have HLI := Lib.hid (lay_in (W := w1) m (by omega) (by omega) A cap L (H1.out.rd.keep hc1) H1.out.ok)
    clear hc1
    go_wp2_with fail
    refine HLI.out.mono ?_
    rintro e w2 ⟨p, q, rfl, htw⟩
    obtain ⟨h, c, sv, cs, lv, fv, hm, _, _, hf, _⟩ := htw.ex
    have HC2 := Lib.hid (HC1.out.trans htw.chg)
    generalize layS m L = S at hm
    have HM := Lib.hid hm
    have HWS := Lib.hid (words_am hm B cap2 l (H2.out.rd.keep HC2.out) H2.out.wds H2.out.len)
    clear htw hm hf
    go_wp2_with fail
    refine HWS.out.mono ?_
    rintro e w3 ⟨ov, rfl, hc3, hown⟩
    obtain ⟨oa, oc, rfl⟩ := ownsRow_slice hown
    have hm3 := HM.out.chg hc3 (by simp)
    have HC3 := Lib.hid (HC2.out.trans hc3)
    have hlw := lawWords_wd HM.out.ok H2.out.wds
    have hll := lawWords_len S l
    generalize lawWords S l = own at hown hlw hll
    have HRE := Lib.hid (reach_am hm3 _ own (own_low hown (Nat.zero_le _)) hlw (by omega))
    have HM3 := Lib.hid hm3
    have HO3 := Lib.hid hown
    have HLW := Lib.hid hlw
    clear hc3 hown hm3 hlw HWS HM
    go_wp2_with fail
    refine HRE.out.mono ?_
    rintro e w4 ⟨lv4, rfl, hc4, hlive⟩
    obtain ⟨va, vc, rfl⟩ := ownsRow_slice hlive
    have hgr := good_reach S own
    have hgl : (S.reach own).length ≤ 32768 := by have h5 := hgr.length_le; have h6 := HM3.out.count; omega
    have HM4 := Lib.hid (HM3.out.chg hc4 (by simp))
    have HO4 := Lib.hid (ownsRow_chg HO3.out hc4 (by simp))
    have HV4 := Lib.hid hlive
    have HC4 := Lib.hid (HC3.out.trans hc4)
    have HT := Lib.hid (fun k b => foundB_told (S := S) (own := own) (k := k) (b := b))
    have HGR := Lib.hid hgr
    clear hc4 hlive HRE HM3 HO3 HC3 HC2 HC1 HLI HAW hgr
    obtain ⟨g, hg⟩ : ∃ g, g = S.reach own := ⟨_, rfl⟩
    rw [← hg] at HV4 HT HGR hgl ⊢
    clear hg
    go_wp2_with fail
    go_loopg [51] g.length (fun gh v wr => ∃ k N : Nat, gh = g.length - k ∧ k ≤ g.length ∧ v = .int .i64 ((k : Nat) : Int) ∧ wr = w4.drewN N)
    case atStart => exact ⟨0, 0, rfl, Nat.zero_le _, rfl, rfl⟩
    case round =>
      obtain ⟨k, N, hgk, hk, rfl, rfl⟩ := hrel
      by_cases hlt : k < g.length
      · have hdec : decide ((k : Int) < (g.length : Int)) = true := decide_eq_true (by omega)
        obtain ⟨b, hb⟩ : ∃ b, g[k]? = some b := ⟨_, List.getElem?_eq_getElem hlt⟩
        have hbl : b < S.L.length := HGR.out.lt b (List.mem_of_getElem? hb)
        have hlive : ∀ j c, g[j]? = some c → ∃ gv, va = some ⟨gv, 0, none⟩ ∧ w4.cell? ⟨gv, j, none⟩ = some (.int .u64 (2 * ((S.pos c : Nat) : Int))) := by
          intro j c hc
          obtain ⟨gv, e, _, hcell⟩ := row_word HV4.out (List.getElem?_eq_some_iff.1 hc).1
          rw [ptrs_at hc] at hcell
          exact ⟨gv, e, hcell⟩
        obtain ⟨gv, rfl, cb⟩ := hlive k b hb
        have HLV := Lib.hid hlive
        have HB := Lib.hid hb
        have HTB := Lib.hid (HT.out k b hb)
        have hpb := pos_le HM4.out.ok hbl
        have hld : ∀ x, Wd x → ∀ N, Calls Try.prog 26 #[.pointer (some ⟨p, 0, none⟩), .int .u64 x] (w4.drewN N) fun e w' => e = .returned (.tuple #[.int .u64 (S.lds x).1, .int .i64 (S.lds x).2]) ∧ ∃ n, w' = (w4.drewN N).drewN n :=
          fun x hx N => leads_am (HM4.out.drewN N) x hx.1 hx.2
        have HLD := Lib.hid hld
        clear hlive hb hld
        go_wp2_with fail
        go_loopg [13, 56] own.length (fun gh v13 v56 wr => ∃ j N : Nat, gh = own.length - j ∧ j ≤ own.length ∧ v13 = .bool (foundA S b own j) ∧ v56 = .int .i64 ((j : Nat) : Int) ∧ wr = w4.drewN N)
        case atStart => exact ⟨0, N, rfl, Nat.zero_le _, rfl, rfl, rfl⟩
        case round =>
          obtain ⟨j, N, hgj, hj, rfl, rfl, rfl⟩ := hrel
          by_cases hlt2 : j < own.length
          · have hdec2 : decide ((j : Int) < (own.length : Int)) = true := decide_eq_true (by omega)
            obtain ⟨go, rfl, lo, co⟩ := row_word HO4.out hlt2
            have HL1 := Lib.hid (HLD.out _ (HLW.out _ (wat_mem hlt2)) N)
            have hh := hit_lds hbl (wat own j)
            have hfs := foundA_succ S b own hlt2
            generalize S.lds (wat own j) = ld at HL1 hh
            cases hfa : foundA S b own j with
            | true =>
              rw [hfa] at hfs
              have HFS := Lib.hid hfs
              clear hh hfs hfa
              go_wp2_with (go_at_call 26; refine HL1.out.mono ?_; rintro e w' ⟨rfl, ⟨n, rfl⟩⟩)
              go_roundg (own.length - (j + 1))
              case measure => omega
              case rel => exact ⟨j + 1, N + n, rfl, by omega, by rw [HFS.out]; rfl, by go_num, by simp⟩
            | false =>
              rw [hfa, Bool.false_or] at hfs
              have HFS := Lib.hid hfs
              cases hhb : hit S b (wat own j) with
              | true =>
                rw [hhb] at hh
                have HHB := Lib.hid hhb
                clear hfs hfa hhb
                go_wp2_with (go_at_call 26; refine HL1.out.mono ?_; rintro e w' ⟨rfl, ⟨n, rfl⟩⟩)
                go_roundg (own.length - (j + 1))
                case measure => omega
                case rel => exact ⟨j + 1, N + n, rfl, by omega, by rw [HFS.out, HHB.out], by go_num, by simp⟩
              | false =>
                rw [hhb] at hh
                have HHB := Lib.hid hhb
                clear hfs hfa hhb
                go_wp2_with (go_at_call 26; refine HL1.out.mono ?_; rintro e w' ⟨rfl, ⟨n, rfl⟩⟩)
                go_roundg (own.length - (j + 1))
                case measure => omega
                case rel => exact ⟨j + 1, N + n, rfl, by omega, by rw [HFS.out, HHB.out], by go_num, by simp⟩
          · obtain rfl : j = own.length := by omega
            have hdec2 : decide ((own.length : Int) < (own.length : Int)) = false := decide_eq_false (by omega)
            go_wp2_with fail
            go_loopg [13, 18] k (fun gh v13 v18 wr => ∃ k2 N : Nat, gh = k - k2 ∧ k2 ≤ k ∧ v13 = .bool (foundB S b own g k2) ∧ v18 = .int .i64 ((k2 : Nat) : Int) ∧ wr = w4.drewN N)
            case atStart => exact ⟨0, N, rfl, Nat.zero_le _, by rw [foundB_zero], rfl, rfl⟩
            case round =>
              obtain ⟨k2, N, hgk2, hk2, rfl, rfl, rfl⟩ := hrel
              by_cases hlt3 : k2 < k
              · have hdec3 : decide ((k2 : Int) < (k : Int)) = true := decide_eq_true (by omega)
                obtain ⟨c2, hc2⟩ : ∃ c2, g[k2]? = some c2 := ⟨_, List.getElem?_eq_getElem (by omega)⟩
                have hcl : c2 < S.L.length := HGR.out.lt c2 (List.mem_of_getElem? hc2)
                have hpc := pos_le HM4.out.ok hcl
                obtain ⟨gv2, e2, cc⟩ := HLV.out k2 c2 hc2
                simp only [Option.some.injEq, Addr.mk.injEq, and_true] at e2
                subst e2
                have hne : c2 ≠ b := by
                  rintro rfl
                  have h3 := HB.out
                  obtain ⟨p1, q1⟩ := List.getElem?_eq_some_iff.1 hc2
                  obtain ⟨p2, q2⟩ := List.getElem?_eq_some_iff.1 h3
                  have := (List.getElem_inj (h₀ := p1) (h₁ := p2) HGR.out.nodup).1 (q1.trans q2.symm)
                  omega
                have hnp : S.pos c2 ≠ S.pos b := fun e => hne (pos_inj hcl hbl e)
                have hse := foundC_end S b own (g := g) hc2 (j := (S.blk c2).words.length) (Nat.le_refl _)
                have HSE := Lib.hid hse
                have hbo := HM4.out.blkOk hcl
                have hfl := hbo.size
                have hSz : ∀ N, Calls Try.prog 25 #[.pointer (some ⟨p, 0, none⟩), .int .u64 (2 * ((S.pos c2 : Nat) : Int))] (w4.drewN N) fun e w' => e = .returned (.int .i64 (((S.blk c2).fs.length : Nat) : Int)) ∧ ∃ n, w' = (w4.drewN N).drewN n := by
                  intro N
                  have := size_am (HM4.out.drewN N) (2 * ((S.pos c2 : Nat) : Int)) (by omega) (by omega)
                  unfold St.sizeOf at this
                  rw [find_ptr HM4.out.ok hcl] at this
                  exact this
                have hTg : ∀ N, Calls Try.prog 27 #[.pointer (some ⟨p, 0, none⟩), .int .u64 (2 * ((S.pos c2 : Nat) : Int))] (w4.drewN N) fun e w' => e = .returned (.int .i64 (((S.blk c2).tag : Nat) : Int)) ∧ ∃ n, w' = (w4.drewN N).drewN n := by
                  intro N
                  have := tag_am (HM4.out.drewN N) (2 * ((S.pos c2 : Nat) : Int)) (by omega) (by omega)
                  unfold St.tagOf at this
                  rw [find_ptr HM4.out.ok hcl] at this
                  exact this
                have hGt : ∀ N (j : Nat), j < (S.blk c2).fs.length → Calls Try.prog 28 #[.pointer (some ⟨p, 0, none⟩), .int .u64 (2 * ((S.pos c2 : Nat) : Int)), .int .i64 (j : Int)] (w4.drewN N) fun e w' => e = .returned (.tuple #[.int .u64 (wat (S.blk c2).fs j), .int .i64 0]) ∧ ∃ n, w' = (w4.drewN N).drewN n := by
                  intro N j hj
                  have := get_am (HM4.out.drewN N) (2 * ((S.pos c2 : Nat) : Int)) j (by omega) (by omega)
                  unfold St.get at this
                  rw [find_ptr HM4.out.ok hcl] at this
                  dsimp only at this
                  rw [if_neg (by omega), Int.toNat_natCast] at this
                  exact this
                have HSZ := Lib.hid hSz
                have HTG := Lib.hid hTg
                have HGT := Lib.hid hGt
                have HNP := Lib.hid hnp
                have hdw : (S.blk c2).words = if (S.blk c2).tag = 202 then [] else (S.blk c2).fs := rfl
                have HDW := Lib.hid hdw
                have hbw := hbo.words
                have HBW := Lib.hid hbw
                clear hse hSz hTg hGt hc2 hne hnp hdw hbw hbo
                generalize (S.blk c2).words = ws at HSE HDW
                generalize (S.blk c2).fs = fs at *
                generalize (S.blk c2).tag = tg at *
                go_wp2_with fail
                go_loopg [13, 19] ws.length (fun gh v13 v19 wr => ∃ j N : Nat, gh = ws.length - j ∧ j ≤ ws.length ∧ v13 = .bool (foundC S b own g k2 ws j) ∧ v19 = .int .i64 ((j : Nat) : Int) ∧ wr = w4.drewN N)
                case atStart => exact ⟨0, N, rfl, Nat.zero_le _, by rw [foundC_zero], rfl, rfl⟩
                case round =>
                  obtain ⟨j, N, hgj, hj, rfl, rfl, rfl⟩ := hrel
                  have HZ := Lib.hid (HSZ.out N)
                  by_cases hjl : j < ws.length
                  · have hnt : tg ≠ 202 := by
                      rintro rfl
                      have h3 := HDW.out
                      rw [if_pos rfl] at h3
                      rw [h3] at hjl; simp at hjl
                    have hws : ws = fs := by have h3 := HDW.out; rwa [if_neg hnt] at h3
                    subst hws
                    have hd1 : decide ((j : Int) < (ws.length : Int)) = true := decide_eq_true (by omega)
                    have hd2 : ((tg : Int) != 202) = true := bne_iff_ne.2 (by omega)
                    have hwd := HBW.out (wat ws j) (wat_mem hjl)
                    have hh := hit_lds hbl (wat ws j)
                    have hfs := foundC_succ S b own g k2 ws hjl
                    have HLD2 := Lib.hid (fun N => HLD.out (wat ws j) hwd N)
                    have HGT2 := Lib.hid (fun N => HGT.out N j hjl)
                    have HTG2 := Lib.hid HTG.out
                    generalize S.lds (wat ws j) = ld at HLD2 hh
                    clear hnt
                    cases hfa : foundC S b own g k2 ws j with
                    | true =>
                      rw [hfa] at hfs
                      have HFS := Lib.hid hfs
                      clear hh hfs hfa
                      go_wp2_with (first | (go_at_call 25; refine HZ.out.mono ?_; rintro e w' ⟨rfl, ⟨n1, rfl⟩⟩) | (go_at_call 27; refine (HTG2.out _).mono ?_; rintro e w' ⟨rfl, ⟨n2, rfl⟩⟩) | (go_at_call 28; refine (HGT2.out _).mono ?_; rintro e w' ⟨rfl, ⟨n3, rfl⟩⟩) | (go_at_call 26; refine (HLD2.out _).mono ?_; rintro e w' ⟨rfl, ⟨n4, rfl⟩⟩))
                      go_roundg (ws.length - (j + 1))
                      case measure => omega
                      case rel => exact ⟨j + 1, N + n1 + n2 + n3 + n4, rfl, by omega, by rw [HFS.out]; rfl, by go_num, by simp [Nat.add_assoc]⟩
                    | false =>
                      rw [hfa, Bool.false_or] at hfs
                      have HFS := Lib.hid hfs
                      cases hhb : hit S b (wat ws j) with
                      | true =>
                        rw [hhb] at hh
                        have HHB := Lib.hid hhb
                        clear hfs hfa hhb
                        go_wp2_with (first | (go_at_call 25; refine HZ.out.mono ?_; rintro e w' ⟨rfl, ⟨n1, rfl⟩⟩) | (go_at_call 27; refine (HTG2.out _).mono ?_; rintro e w' ⟨rfl, ⟨n2, rfl⟩⟩) | (go_at_call 28; refine (HGT2.out _).mono ?_; rintro e w' ⟨rfl, ⟨n3, rfl⟩⟩) | (go_at_call 26; refine (HLD2.out _).mono ?_; rintro e w' ⟨rfl, ⟨n4, rfl⟩⟩))
                        go_roundg (ws.length - (j + 1))
                        case measure => omega
                        case rel => exact ⟨j + 1, N + n1 + n2 + n3 + n4, rfl, by omega, by rw [HFS.out, HHB.out], by go_num, by simp [Nat.add_assoc]⟩
                      | false =>
                        rw [hhb] at hh
                        have HHB := Lib.hid hhb
                        clear hfs hfa hhb
                        go_wp2_with (first | (go_at_call 25; refine HZ.out.mono ?_; rintro e w' ⟨rfl, ⟨n1, rfl⟩⟩) | (go_at_call 27; refine (HTG2.out _).mono ?_; rintro e w' ⟨rfl, ⟨n2, rfl⟩⟩) | (go_at_call 28; refine (HGT2.out _).mono ?_; rintro e w' ⟨rfl, ⟨n3, rfl⟩⟩) | (go_at_call 26; refine (HLD2.out _).mono ?_; rintro e w' ⟨rfl, ⟨n4, rfl⟩⟩))
                        go_roundg (ws.length - (j + 1))
                        case measure => omega
                        case rel => exact ⟨j + 1, N + n1 + n2 + n3 + n4, rfl, by omega, by rw [HFS.out, HHB.out], by go_num, by simp [Nat.add_assoc]⟩
                  · obtain rfl : j = ws.length := by omega
                    have hnp2 : ((2 * ((S.pos c2 : Nat) : Int)) == (2 * ((S.pos b : Nat) : Int))) = false := beq_eq_false_iff_ne.2 (fun e => HNP.out (by omega))
                    by_cases ht : tg = 202
                    · have hws : ws = [] := by have h3 := HDW.out; rwa [if_pos ht] at h3
                      subst hws
                      have hd2 : ((tg : Int) != 202) = false := bne_eq_false_iff_eq.2 (by omega)
                      clear ht
                      by_cases hz : 0 < fs.length
                      · have hd1 : decide ((([] : List Int).length : Int) < (fs.length : Int)) = true := decide_eq_true (by simpa using hz)
                        have hd1' : decide ((0 : Int) < (fs.length : Int)) = true := decide_eq_true (by simpa using hz)
                        go_upto_region 27 with (first | (go_at_call 25; refine HZ.out.mono ?_; rintro e w' ⟨rfl, ⟨n1, rfl⟩⟩) | (go_at_call 27; refine (HTG.out _).mono ?_; rintro e w' ⟨rfl, ⟨n2, rfl⟩⟩))
                        refine region_quiet_at (by kernel_rfl) (by kernel_rfl) ?_
                        repeat go_big_quiet_step (fail)
                        refine wpQuiet_nil ?_
                        intro m3
                        go_wp2_with fail
                        go_roundg (k - (k2 + 1))
                        case measure => omega
                        case rel => exact ⟨k2 + 1, _, rfl, by omega, congrArg Value.bool HSE.out, by go_num, rfl⟩
                      · have hd1 : decide ((([] : List Int).length : Int) < (fs.length : Int)) = false := decide_eq_false (by simpa using hz)
                        have hd1' : decide ((0 : Int) < (fs.length : Int)) = false := decide_eq_false (by simpa using hz)
                        go_upto_region 27 with (first | (go_at_call 25; refine HZ.out.mono ?_; rintro e w' ⟨rfl, ⟨n1, rfl⟩⟩) | (go_at_call 27; refine (HTG.out _).mono ?_; rintro e w' ⟨rfl, ⟨n2, rfl⟩⟩))
                        refine region_quiet_at (by kernel_rfl) (by kernel_rfl) ?_
                        repeat go_big_quiet_step (fail)
                        refine wpQuiet_nil ?_
                        intro m3
                        go_wp2_with fail
                        go_roundg (k - (k2 + 1))
                        case measure => omega
                        case rel => exact ⟨k2 + 1, _, rfl, by omega, congrArg Value.bool HSE.out, by go_num, rfl⟩
                    · have hws : ws = fs := by have h3 := HDW.out; rwa [if_neg ht] at h3
                      subst hws
                      have hd1 : decide ((ws.length : Int) < (ws.length : Int)) = false := decide_eq_false (by omega)
                      clear ht
                      go_upto_region 27 with (first | (go_at_call 25; refine HZ.out.mono ?_; rintro e w' ⟨rfl, ⟨n1, rfl⟩⟩) | (go_at_call 27; refine (HTG.out _).mono ?_; rintro e w' ⟨rfl, ⟨n2, rfl⟩⟩))
                      refine region_quiet_at (by kernel_rfl) (by kernel_rfl) ?_
                      repeat go_big_quiet_step (fail)
                      refine wpQuiet_nil ?_
                      intro m3
                      go_wp2_with fail
                      go_roundg (k - (k2 + 1))
                      case measure => omega
                      case rel => exact ⟨k2 + 1, _, rfl, by omega, congrArg Value.bool HSE.out, by go_num, rfl⟩
              · obtain rfl : k2 = k := by omega
                have hdec3 : decide ((k2 : Int) < (k2 : Int)) = false := decide_eq_false (by omega)
                rw [HTB.out]
                go_wp2_with fail
                go_roundg (g.length - (k2 + 1))
                case measure => omega
                case rel => exact ⟨k2 + 1, N, rfl, by omega, by go_num, rfl⟩
      · obtain rfl : k = g.length := by omega
        have hdec : decide ((g.length : Int) < (g.length : Int)) = false := decide_eq_false (by omega)
        go_wp2_with fail
        go_ret
        exact ⟨rfl, HC4.out.drewN N⟩

end Go.Proofs.Ytkjggomkkfknhaa
