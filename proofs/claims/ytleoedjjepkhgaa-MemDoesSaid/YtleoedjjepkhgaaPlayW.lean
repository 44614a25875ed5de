import Derived.Test.YtleoedjjepkhgaaPlayV
import Derived.Deep.LoopGhost
import Derived.Deep.CutRange
import Derived.Deep.CutBlock
import Derived.Deep.RegionHeld3
import Derived.Deep.QuietTactic
import Derived.BigQuiet
/- play, walked once for whoever plays. -/
namespace Go.Proofs.Ytleoedjjepkhgaa
open Go.RowKit

/-- the row of what is held, while it is made -/
def held0 (k : Nat) : List Int := List.replicate k 1 ++ List.replicate (8 - k) 0

theorem words_held0_len {k : Nat} (h : k ≤ 8) : (words (held0 k)).length = 8 := by simp [words, held0]; omega

theorem row_at {w : World} {base : Nat} {e : TypeId} {size g n cap : Nat} {xs : List Value} (H : w.ownsRow base e size (.slice (some ⟨g, 0, none⟩) n cap) n xs) :
    base ≤ g ∧ g < w.heap.size ∧ (∀ j u, xs[j]? = some u → w.cell? ⟨g, j, none⟩ = some u) ∧ ∀ j, w.frozen? ⟨g, j, none⟩ = false := by
  rcases H.2 with ⟨h, _⟩ | ⟨b, c, cur, h, hb, hh, hnc, hm, hs, ht⟩
  · cases h
  · simp only [Value.slice.injEq, Option.some.injEq, Addr.mk.injEq, true_and, and_true] at h
    obtain ⟨rfl, rfl⟩ := h
    refine ⟨hb, lt_of_heap hh, fun j u hj => ?_, fun j => free_at hh j⟩
    rw [← ht, List.getElem?_take] at hj
    split at hj
    · exact cell_at hh (by simpa using hj)
    · cases hj

theorem made_held : (madeCells (Value.int .u64 0).cells (8 * 1)).toList = words (held0 0) := by
  show (madeCells #[Value.int .u64 0] (8 * 1)).toList = _
  rw [toList_madeCells_one]
  rfl

theorem held0_get {k : Nat} (h : k < 8) : (words (held0 k))[k]? = some (.int .u64 0) := by
  simp only [words, held0, List.map_append, List.map_replicate]
  rw [List.getElem?_append_right (by simp)]
  simp only [List.length_replicate, Nat.sub_self]
  rw [List.getElem?_replicate, if_pos (by omega)]

theorem held0_set {k : Nat} (h : k < 8) : (words (held0 k)).set k (.int .u64 1) = words (held0 (k + 1)) := by
  match k, h with
  | 0, _ => rfl
  | 1, _ => rfl
  | 2, _ => rfl
  | 3, _ => rfl
  | 4, _ => rfl
  | 5, _ => rfl
  | 6, _ => rfl
  | 7, _ => rfl

set_option maxHeartbeats 4000000 in
set_option maxRecDepth 100000 in
theorem play_am {I : MemI} {FA FF FG FS FZ : Nat} {pre post rF rG : Array Value} (D : Doer I FA FF FG FS FZ pre post rF rG) {W : World} {F : List Nat} {n : Nat} (HI : I W F (startP n).st 0)
    (A : Option Addr) (cap : Nat) (l : List Stp) (hR : ∀ w', Chg F W w' → RdS w' A l) (hok : ∀ k, k < l.length → (stpAt l k).ok) (hlen : l.length ≤ 9223372036854775807) (forced : Bool) :
    Calls Try.prog 9 #[.agg #[.func (.func FA) pre post, .func (.func FF) rF #[], .func (.func FG) rG #[], .func (.func FS) rG #[], .func (.func FZ) rG #[]], .slice A l.length cap, .bool forced] W fun e w' =>
      ∃ hv ev F', e = .returned (.tuple #[hv, ev]) ∧ Chg F W w' ∧ I w' F' (plK forced n l (min l.length 80)).st (plK forced n l (min l.length 80)).count ∧ (∀ b ∈ F', b ∈ F ∨ W.heap.size ≤ b) ∧ w'.ownsRow W.heap.size 49 1 hv 8 (words (plK forced n l (min l.length 80)).held) ∧
        (∀ b, hv.ownBlock = some b → b ∉ F') ∧ w'.ownsRow W.heap.size 46 1 ev (min l.length 80) (ints (erK forced n l (min l.length 80))) ∧ Hld (plK forced n l (min l.length 80)) := by
  have HD := Lib.hid D
  have HII := Lib.hid HI
  have HRR := Lib.hid hR
  have HOK := Lib.hid hok
  have e1 := D.eA
  have e2 := D.eF
  have e3 := D.eG
  have e4 := D.eS
  have e5 := D.eZ
  clear D HI hR hok
  obtain ⟨i0, hi, hz0, hz1, hz2⟩ := info_parts info_word
  obtain ⟨j0, hj, hy0, hy1, hy2⟩ := info_parts info_errno
  go_enter Try.func9, Try.ntmps9
  go_wp2_with (at_make; refine wpList_make_full _ rfl _ _ 28 rfl W.heap.size 49 i0 (.int .u64 0) 1 Try.underlying28 hi hz0 hz1 .i64 .i64 _ _ 8 rfl rfl (by omega) (by omega) (by rw [hz2]; omega) (by unfold maxLen; omega) (by simp only [size_alloc]; omega) ?_; intro w1 hown1 hgrow1; rw [size_alloc] at hown1 ⊢; have H1 := Lib.hid (And.intro hown1 hgrow1); clear hown1 hgrow1)
  have hq1 : w1.heap[W.heap.size]? = some (.cells #[.func (.func FA) pre post, .func (.func FF) rF #[], .func (.func FG) rG #[], .func (.func FS) rG #[], .func (.func FZ) rG #[]] 38 (0, 0)) := by
    rw [H1.out.2.block W.heap.size (by rw [size_alloc]; omega) (by simp)]
    exact heap_alloc_new W _
  have hc1 : Chg [] W w1 := ((Chg.refl [] W).alloc _).grown H1.out.2 (fun k hk => by cases hk)
  have hr1 : w1.ownsRow W.heap.size 49 1 (.slice (some ⟨W.heap.size + 1, 0, none⟩) 8 8) 8 (words (held0 0)) := by
    have h := own_low H1.out.1 (Nat.le_refl _)
    rw [made_held] at h
    exact h
  have HP1 := Lib.hid (And.intro hq1 (And.intro hc1 hr1))
  obtain ⟨g, hg⟩ : ∃ g, g = W.heap.size + 1 := ⟨_, rfl⟩
  have hgd : W.heap.size < g := by omega
  clear hq1 hc1 hr1 H1
  rw [← hg] at HP1 ⊢
  clear hg
  go_loopg [9, 25] 8 (fun gh v9 v25 wr => ∃ k : Nat, gh = 8 - k ∧ k ≤ 8 ∧ v25 = .int .i64 k ∧ wr.heap[W.heap.size]? = some (.cells #[.func (.func FA) pre post, .func (.func FF) rF #[], .func (.func FG) rG #[], .func (.func FS) rG #[], .func (.func FZ) rG #[]] 38 (0, 0)) ∧ Chg [] W wr ∧
    wr.ownsRow W.heap.size 49 1 (.slice (some ⟨g, 0, none⟩) 8 8) 8 (words (held0 k)))
  case atStart => exact ⟨0, rfl, Nat.zero_le _, rfl, HP1.out⟩
  case round =>
    clear HP1
    obtain ⟨k, hgk, hk, rfl, hq, hc, hr⟩ := hrel
    by_cases hlt : k < 8
    · have hdec : decide ((k : Int) < 8) = true := decide_eq_true (by omega)
      obtain ⟨hg1, hg2, hcell, hfr⟩ := row_at hr
      have hck := hcell k (.int .u64 0) (held0_get hlt)
      have hfk := hfr k
      have hst := ownsRow_store hr rfl (j := k) (by rw [words_held0_len (by omega)]; omega) (.int .u64 1)
      rw [held0_set hlt] at hst
      have HS := Lib.hid (And.intro (show (wr.setCell ⟨g, k, none⟩ (.int .u64 1)).heap[W.heap.size]? = _ from (heap_set_ne (.int .u64 1) (by omega)).trans hq) (And.intro (hc.set (b := g) (o := k) (.int .u64 1) (.inr hg1)) hst))
      clear hr hcell hfr hq hc hst
      go_wp2
      go_roundg (8 - (k + 1))
      case measure => omega
      case rel => exact ⟨k + 1, rfl, by omega, by go_num, HS.out⟩
    · obtain rfl : k = 8 := by omega
      have hdec : decide ((8 : Int) < 8) = false := by decide
      have HS := Lib.hid (And.intro hq (And.intro hc hr))
      clear hr hq hc
      go_wp2_with fail
      have hlt1 := HS.out.2.2.lt g rfl
      have hpw : PV I W (wr.alloc (.cells #[] 46)) F (plK forced n l 0) 0 (erK forced n l 0) (2 * 0) W.heap.size #[.func (.func FA) pre post, .func (.func FF) rF #[], .func (.func FG) rG #[], .func (.func FS) rG #[], .func (.func FZ) rG #[]] (.slice (some ⟨g, 0, none⟩) 8 8) (.slice (some ⟨wr.heap.size, 0, none⟩) 0 0) [] := by
        have hF := HD.out.lts HII.out
        have hsz := HS.out.2.1.size
        refine ⟨⟨(HS.out.2.1.alloc _).mono (by simp), F, HD.out.keep HII.out (HS.out.2.1.alloc _) (by simp), fun b hb => .inl hb, ?_⟩, ?_, fun q hq => absurd hq (by simp), ?_, ?_, ⟨by simp [plK, playP, startP], ?_⟩, by simp [plK, playP, startP]⟩
        · intro b hb
          have hb' : b = W.heap.size ∨ b = g ∨ b = wr.heap.size := by simpa [Value.ownBlock, eq_comm] using hb
          have hdl := lt_of_heap HS.out.1
          rw [size_alloc]
          refine ⟨fun hm => ?_, by omega, by omega⟩
          have := hF b hm
          omega
        · exact (Below.heap_alloc _ _ _ (lt_of_heap HS.out.1)).trans HS.out.1
        · exact HS.out.2.2.alloc _
        · exact ⟨rfl, .inr ⟨wr.heap.size, 0, #[], rfl, hsz, heap_alloc_new wr _, Nat.le_refl _, by unfold maxLen; omega, rfl, rfl⟩⟩
        · intro x hx
          have := List.eq_of_mem_replicate (show x ∈ List.replicate 8 1 from hx)
          subst this
          exact wd_one
      have HP := Lib.hid hpw
      clear hpw HS hlt1 HII
      generalize wr.alloc (.cells #[] 46) = w2 at HP ⊢
      obtain ⟨ha0, hha⟩ : ∃ a, a = some (⟨g, 0, none⟩ : Addr) := ⟨_, rfl⟩
      obtain ⟨ea0, hea⟩ : ∃ a, a = some (⟨wr.heap.size, 0, none⟩ : Addr) := ⟨_, rfl⟩
      rw [← hha, ← hea] at HP ⊢
      clear hha hea hgd
      go_loopg [8, 10, 11] l.length (fun gh v8 v10 v11 wr => ∃ k ha hc ea ec, gh = l.length - k ∧ k ≤ l.length ∧ k ≤ 80 ∧ v11 = .int .i64 ((k : Nat) : Int) ∧ v8 = .slice ha 8 hc ∧ v10 = .slice ea k ec ∧
        PV I W wr F (plK forced n l k) k (erK forced n l k) (2 * k) W.heap.size #[.func (.func FA) pre post, .func (.func FF) rF #[], .func (.func FG) rG #[], .func (.func FS) rG #[], .func (.func FZ) rG #[]] (.slice ha 8 hc) (.slice ea k ec) [])
      case atStart => exact ⟨0, ha0, 8, ea0, 0, rfl, Nat.zero_le _, Nat.zero_le _, rfl, rfl, rfl, HP.out⟩
      case round =>
        clear HP
        obtain ⟨k, ha, hc, ea, ec, hgk, hk, hk80, rfl, rfl, rfl, hp⟩ := hrel
        by_cases hlt : k < l.length
        · have hdec : decide ((k : Int) < (l.length : Int)) = true := decide_eq_true (by omega)
          by_cases h80 : k < 80
          · have hdec2 : decide ((k : Int) < 80) = true := decide_eq_true (by omega)
            obtain ⟨ad, rfl, hb, c0, c1, c2, c3⟩ := HRR.out wr hp.pm.chg k hlt
            have HP0 := Lib.hid hp
            have HB := Lib.hid (hp.box HD.out #[.int .i64 (stpAt l k).kind, .int .i64 (stpAt l k).a, .int .i64 (stpAt l k).b, .int .i64 (stpAt l k).c])
            clear hp
            go_upto_if 47 with fail
            generalize hsb : wr.heap.size = sb at HB ⊢
            generalize wr.alloc (.cells #[.int .i64 (stpAt l k).kind, .int .i64 (stpAt l k).a, .int .i64 (stpAt l k).b, .int .i64 (stpAt l k).c] 25) = w3 at HB ⊢
            clear c0 c1 c2 c3 hb hsb HP0
            obtain ⟨s, hs⟩ : ∃ s, s = stpAt l k := ⟨_, rfl⟩
            rw [← hs] at HB ⊢
            have HSK := Lib.hid hs
            clear hs
            go_cut [8] from 33 to 162 (fun v8 wx => ∃ a c, v8 = .slice a 8 c ∧ Hid (PV I W wx F (frc forced (plK forced n l k)) k (erK forced n l k) (2 * k + 1) W.heap.size #[.func (.func FA) pre post, .func (.func FF) rF #[], .func (.func FG) rG #[], .func (.func FS) rG #[], .func (.func FZ) rG #[]] (.slice a 8 c) (.slice ea k ec) [(sb, #[.int .i64 s.kind, .int .i64 s.a, .int .i64 s.b, .int .i64 s.c])]))
            case first =>
              cases forced with
              | false =>
                go_wp2
                go_meet
                exact ⟨ha, hc, rfl, Lib.hid (by rw [frc_no]; exact HB.out.more (by omega))⟩
              | true =>
                have kd1 := cell_at HB.out.dq (o := 1) rfl
                have HFO := Lib.hid (pv_force HD.out HB.out (by omega))
                go_wp2_with fail
                refine HFO.out.mono ?_
                rintro e w4 ⟨a', c', rfl, hp4⟩
                have HP4 := Lib.hid hp4
                clear hp4 kd1 HFO
                go_wp2_with fail
                go_meet
                exact ⟨a', c', rfl, Lib.hid (by rw [frc_yes]; exact HP4.out)⟩
            case rest =>
              obtain ⟨ha, hc, rfl, HX⟩ := hcut
              obtain ⟨T, hT⟩ : ∃ T, T = frc forced (plK forced n l k) := ⟨_, rfl⟩
              rw [← hT] at HX
              have HT := Lib.hid hT
              clear hT HB
              have kb0 := cell_at (HX.out.zs _ List.mem_cons_self) (o := 0) rfl
              go_upto_block 4 with fail
              go_cut [8, 13] from 33 to 162 (fun v8 v13 wx => ∃ a c, v8 = .slice a 8 c ∧ v13 = .int .i64 (stepP T s).2 ∧ Hid (PV I W wx F (stepP T s).1 k (erK forced n l k) (2 * k + 2) W.heap.size #[.func (.func FA) pre post, .func (.func FF) rF #[], .func (.func FG) rG #[], .func (.func FS) rG #[], .func (.func FZ) rG #[]] (.slice a 8 c) (.slice ea k ec) [(sb, #[.int .i64 s.kind, .int .i64 s.a, .int .i64 s.b, .int .i64 s.c])]))
              case first =>
                have hso := HOK.out k hlt
                rw [← HSK.out] at hso
                have kb1 := cell_at (HX.out.zs _ List.mem_cons_self) (o := 1) rfl
                have kb2 := cell_at (HX.out.zs _ List.mem_cons_self) (o := 2) rfl
                have kb3 := cell_at (HX.out.zs _ List.mem_cons_self) (o := 3) rfl
                by_cases k0 : s.kind = 0
                · have b0 : (s.kind == 0) = true := beq_iff_eq.2 k0
                  have kd0 := cell_at HX.out.dq (o := 0) rfl
                  have K0 := Lib.hid k0
                  clear k0 kb0
                  by_cases herr : (memAlloc T.st s.a s.b T.held).err = 0
                  · obtain ⟨lh, hlh⟩ : ∃ lh, (memAlloc T.st s.a s.b T.held).roots = some lh := by
                      cases hr : (memAlloc T.st s.a s.b T.held).roots with
                      | none => exact absurd herr ((memAlloc_roots _ _ _ _).1 hr)
                      | some lh => exact ⟨lh, rfl⟩
                    have HAL := Lib.hid (pv_alloc_ok HD.out HX.out (by omega) s.a s.b hso.a hso.b hlh)
                    have HST := Lib.hid (stepP_laid K0.out hlh)
                    have HPL := Lib.hid (placeOf_lt s.c)
                    clear herr hlh
                    go_wp2_with fail
                    refine HAL.out.mono ?_
                    rintro e w5 ⟨a5, c5, rfl, hp5, hw5⟩
                    obtain ⟨g5, rfl, hc5, hf5⟩ := hp5.slot
                    have kb3 := cell_at (hp5.zs _ List.mem_cons_self) (o := 3) rfl
                    have hpc := HPL.out
                    have HPA := Lib.hid (place_any s.c)
                    have HST' := HST.out
                    generalize placeOf s.c = pc at hpc HPA HST'
                    have HH := Lib.hid (hp5.hold HD.out hpc hw5)
                    have hck := hc5 pc hpc
                    have hfk := hf5 pc
                    have HST2 := Lib.hid HST'
                    clear HAL HST kb1 kb2 kd0 hp5 hw5 hc5 hf5 HPL HST'
                    go_wp2_with (go_at_call 31; refine (HPA.out _).mono ?_; rintro e w' ⟨rfl, hw'⟩; obtain rfl := hw'.symm)
                    go_meet
                    exact ⟨_, c5, rfl, by rw [HST2.out], Lib.hid (by rw [HST2.out]; exact HH.out)⟩
                  · have HAL := Lib.hid (pv_alloc_no HD.out HX.out (by omega) s.a s.b hso.a hso.b herr)
                    have HST := Lib.hid (stepP_bad K0.out herr)
                    have hne : ((memAlloc T.st s.a s.b T.held).err == 0) = false := beq_eq_false_iff_ne.2 herr
                    clear herr
                    go_wp2_with fail
                    refine HAL.out.mono ?_
                    rintro e w5 ⟨x5, a5, n5, c5, rfl, hp5⟩
                    have HP5 := Lib.hid hp5
                    clear HAL kb1 kb2 kd0 hp5
                    go_wp2_with fail
                    go_meet
                    exact ⟨_, hc, rfl, by rw [HST.out], Lib.hid (by rw [HST.out]; exact HP5.out)⟩
                · have b0 : (s.kind == 0) = false := beq_eq_false_iff_ne.2 k0
                  have kd2 := cell_at HX.out.dq (o := 2) rfl
                  have kd3 := cell_at HX.out.dq (o := 3) rfl
                  have kd4 := cell_at HX.out.dq (o := 4) rfl
                  by_cases k125 : s.kind = 1 ∨ s.kind = 2 ∨ s.kind = 5
                  · obtain ⟨g, rfl, hcell, hfr⟩ := HX.out.slot
                    have hsz := sizeOf_le (HX.out.ok HD.out).2 (wat T.held (placeOf s.b))
                    have hpb := placeOf_lt s.b
                    have hpc := placeOf_lt s.c
                    have hwb := HX.out.wdAt hpb
                    have hwc := HX.out.wdAt hpc
                    have HPB := Lib.hid (place_any s.b)
                    have HPC := Lib.hid (place_any s.c)
                    have hcb := hcell _ hpb
                    have hcc := hcell _ hpc
                    have HSZ := Lib.hid (fun n => pv_size HD.out (HX.out.keep HD.out ((Chg.refl [] wc).drewN n)) (wat T.held (placeOf s.b)) hwb)
                    have HCF := Lib.hid (And.intro hcell hfr)
                    have HWW := Lib.hid (And.intro hwb hwc)
                    have HPL := Lib.hid (And.intro hpb hpc)
                    clear hcell hfr hwb hwc k0
                    by_cases hn : T.st.sizeOf (wat T.held (placeOf s.b)) ≤ 0
                    · have HST := Lib.hid (stepP_void k125 hn)
                      have hdn : decide (T.st.sizeOf (wat T.held (placeOf s.b)) ≤ 0) = true := decide_eq_true hn
                      generalize T.st.sizeOf (wat T.held (placeOf s.b)) = nn at HSZ hdn hsz
                      generalize wat T.held (placeOf s.b) = xb at HSZ hcb
                      generalize placeOf s.b = pb at HPB hcb hpb
                      clear hn hpc hcc HPC HWW HCF HPL
                      have HFIN := Lib.hid (HX.out.more (N' := 2 * k + 2) (by omega))
                      rcases k125 with k | k | k
                      · have b1 : (s.kind == 1) = true := by rw [k]; rfl
                        clear k
                        go_upto_region 25 with fail
                        refine region_quiet (by kernel_rfl) (by kernel_rfl) ?_
                        repeat go_big_quiet_step ((first | (go_at_call 31; exact Calls.quiet_of_same (HPB.out _)) | exact Calls.quiet_of (HSZ.out _)))
                        refine wpQuiet_nil ?_
                        intro m
                        go_wp2
                        go_meet
                        exact ⟨_, hc, rfl, by rw [HST.out], Lib.hid (by rw [HST.out]; exact HFIN.out.keep HD.out ((Chg.refl [] wc).drewN m))⟩
                      · have b1 : (s.kind == 1) = false := by rw [k]; rfl
                        have b2 : (s.kind == 2) = true := by rw [k]; rfl
                        clear k
                        go_upto_region 25 with fail
                        refine region_quiet (by kernel_rfl) (by kernel_rfl) ?_
                        repeat go_big_quiet_step ((first | (go_at_call 31; exact Calls.quiet_of_same (HPB.out _)) | exact Calls.quiet_of (HSZ.out _)))
                        refine wpQuiet_nil ?_
                        intro m
                        go_wp2
                        go_meet
                        exact ⟨_, hc, rfl, by rw [HST.out], Lib.hid (by rw [HST.out]; exact HFIN.out.keep HD.out ((Chg.refl [] wc).drewN m))⟩
                      · have b1 : (s.kind == 1) = false := by rw [k]; rfl
                        have b2 : (s.kind == 2) = false := by rw [k]; rfl
                        have b5 : (s.kind == 5) = true := by rw [k]; rfl
                        clear k
                        go_upto_region 25 with fail
                        refine region_quiet (by kernel_rfl) (by kernel_rfl) ?_
                        repeat go_big_quiet_step ((first | (go_at_call 31; exact Calls.quiet_of_same (HPB.out _)) | exact Calls.quiet_of (HSZ.out _)))
                        refine wpQuiet_nil ?_
                        intro m
                        go_wp2
                        go_meet
                        exact ⟨_, hc, rfl, by rw [HST.out], Lib.hid (by rw [HST.out]; exact HFIN.out.keep HD.out ((Chg.refl [] wc).drewN m))⟩
                    · obtain ⟨j, hj⟩ : ∃ j, j = pickOf s.a (T.st.sizeOf (wat T.held (placeOf s.b))) := ⟨_, rfl⟩
                      have HJ := Lib.hid hj
                      have HN := Lib.hid hn
                      have hdn : decide (T.st.sizeOf (wat T.held (placeOf s.b)) ≤ 0) = false := decide_eq_false hn
                      have HA64 := Lib.hid (show IntKind.u64.wrap s.a = w64 s.a by unfold w64; simp only [IntKind.wrap]; rfl)
                      have HA0 := Lib.hid (show 0 ≤ w64 s.a ∧ w64 s.a < 18446744073709551616 by unfold w64; omega)
                      have hnn1 : 1 ≤ T.st.sizeOf (wat T.held (placeOf s.b)) := by omega
                      have hnn2 := hsz.1
                      clear hn hsz hj
                      by_cases k5 : s.kind = 5
                      · have b1 : (s.kind == 1) = false := by rw [k5]; rfl
                        have b2 : (s.kind == 2) = false := by rw [k5]; rfl
                        have b5 : (s.kind == 5) = true := by rw [k5]; rfl
                        have HST := Lib.hid (stepP_got k5 HN.out HJ.out)
                        have HGT := Lib.hid (fun n => pv_get HD.out (HX.out.keep HD.out ((Chg.refl [] wc).drewN n)) (wat T.held (placeOf s.b)) j HWW.out.1)
                        have hj' := HJ.out
                        unfold pickOf at hj'
                        generalize T.st.sizeOf (wat T.held (placeOf s.b)) = nn at HSZ hdn hnn1 hnn2 hj'
                        generalize wat T.held (placeOf s.b) = xb at HSZ hcb HGT HST
                        generalize placeOf s.b = pb at HPB hcb hpb
                        generalize w64 s.a = a64 at HA64 HA0 hj'
                        have hu := HA64.out
                        have ha0 := HA0.out.1
                        have hjb : 0 ≤ j ∧ j < nn := by rw [hj']; exact ⟨Int.emod_nonneg _ (by omega), Int.emod_lt_of_pos _ (by omega)⟩
                        have hjw : a64 % nn = j := hj'.symm
                        have hjw2 : wrap64 j = j := by unfold wrap64; omega
                        clear k5 hj' hcc
                        go_upto_region 25 with fail
                        refine region_quiet (by kernel_rfl) (by kernel_rfl) ?_
                        repeat go_big_quiet_step ((first | (go_at_call 31; exact Calls.quiet_of_same (HPB.out _)) | exact Calls.quiet_of (HSZ.out _)))
                        refine wpQuiet_nil ?_
                        intro m
                        go_upto_region 29 with fail
                        refine region_quiet_at (by kernel_rfl) (by kernel_rfl) ?_
                        repeat go_big_quiet_step ((first | (go_at_call 31; exact Calls.quiet_of_same (HPB.out _)) | exact Calls.quiet_of (HGT.out _)))
                        refine wpQuiet_nil ?_
                        intro m2
                        have hxw : Wd (T.st.get xb j).1 := get_wd (HX.out.ok HD.out).2 xb j
                        generalize T.st.get xb j = gx at HST hxw ⊢
                        obtain ⟨gx, ge⟩ := gx
                        dsimp only at hxw ⊢
                        have HHL := Lib.hid ((HX.out.keep HD.out ((Chg.refl [] wc).drewN m2)).hold HD.out hpc hxw)
                        generalize placeOf s.c = pc at hpc HPC HHL HST
                        have hck := HCF.out.1 pc hpc
                        have hfk := HCF.out.2 pc
                        clear hxw
                        go_wp2_with (go_at_call 31; refine (HPC.out _).mono ?_; rintro e w' ⟨rfl, hw'⟩; obtain rfl := hw'.symm)
                        go_meet
                        exact ⟨_, hc, rfl, by rw [HST.out], Lib.hid (by rw [HST.out]; exact HHL.out.more (by omega))⟩
                      · have b5 : (s.kind == 5) = false := beq_eq_false_iff_ne.2 k5
                        by_cases k1 : s.kind = 1
                        · have b1 : (s.kind == 1) = true := by rw [k1]; rfl
                          have HST := Lib.hid (stepP_put k1 HN.out HJ.out)
                          have hj' := HJ.out
                          unfold pickOf at hj'
                          have hwb := HWW.out.1
                          have hwc := HWW.out.2
                          have HSE := Lib.hid (fun n => pv_set HD.out (HX.out.keep HD.out ((Chg.refl [] wc).drewN n)) (wat T.held (placeOf s.b)) j (wat T.held (placeOf s.c)) hwb hwc)
                          generalize T.st.sizeOf (wat T.held (placeOf s.b)) = nn at HSZ hdn hnn1 hnn2 hj'
                          generalize wat T.held (placeOf s.b) = xb at HSZ hcb HSE HST
                          generalize wat T.held (placeOf s.c) = xc at hcc HSE HST
                          generalize placeOf s.b = pb at HPB hcb hpb
                          generalize placeOf s.c = pc at HPC hcc hpc
                          generalize w64 s.a = a64 at HA64 HA0 hj'
                          have hu := HA64.out
                          have ha0 := HA0.out.1
                          have hjb : 0 ≤ j ∧ j < nn := by rw [hj']; exact ⟨Int.emod_nonneg _ (by omega), Int.emod_lt_of_pos _ (by omega)⟩
                          have hjw : a64 % nn = j := hj'.symm
                          have hjw2 : wrap64 j = j := by unfold wrap64; omega
                          have HRI := Lib.hid (rInt_any s.a hso.a.1 hso.a.2)
                          clear k1 k5 hj' hwb hwc
                          go_upto_region 25 with fail
                          refine region_quiet (by kernel_rfl) (by kernel_rfl) ?_
                          repeat go_big_quiet_step ((first | (go_at_call 31; exact Calls.quiet_of_same (HPB.out _)) | exact Calls.quiet_of (HSZ.out _)))
                          refine wpQuiet_nil ?_
                          intro m
                          go_upto_region 35 with (first | (go_at_call 32; refine (HRI.out _).mono ?_; rintro e w' ⟨rfl, hw'⟩; obtain rfl := hw'.symm) | (go_at_call 31; refine (HPC.out _).mono ?_; rintro e w' ⟨rfl, hw'⟩; obtain rfl := hw'.symm))
                          refine region_quiet_tail_at 10 (by kernel_rfl) (by kernel_rfl) ?_
                          simp only [List.take_succ_cons, List.take_zero, List.drop_succ_cons, List.drop_zero]
                          repeat go_big_quiet_step ((go_at_call 31; exact Calls.quiet_of_same (HPB.out _)))
                          refine wpQuiet_nil ?_
                          intro m2
                          go_wp2_with fail
                          refine (HSE.out m2).mono ?_
                          rintro e w6 ⟨rfl, hp6⟩
                          have HP6 := Lib.hid hp6
                          clear hp6 HSE HSZ
                          go_wp2_with fail
                          go_meet
                          exact ⟨_, hc, rfl, by rw [HST.out], Lib.hid (by rw [HST.out]; exact HP6.out.more (by omega))⟩
                        · have k2 : s.kind = 2 := by omega
                          have b1 : (s.kind == 1) = false := by rw [k2]; rfl
                          have b2 : (s.kind == 2) = true := by rw [k2]; rfl
                          have HST := Lib.hid (stepP_num k2 HN.out HJ.out)
                          have hj' := HJ.out
                          unfold pickOf at hj'
                          have hwb := HWW.out.1
                          have HSE := Lib.hid (fun n => pv_set HD.out (HX.out.keep HD.out ((Chg.refl [] wc).drewN n)) (wat T.held (placeOf s.b)) j (numWord s.a) hwb (numWord_wd s.a))
                          have HRI := Lib.hid (rInt_any s.a hso.a.1 hso.a.2)
                          generalize numWord s.a = xn at HRI HSE HST
                          generalize T.st.sizeOf (wat T.held (placeOf s.b)) = nn at HSZ hdn hnn1 hnn2 hj'
                          generalize wat T.held (placeOf s.b) = xb at HSZ hcb HSE HST
                          generalize placeOf s.b = pb at HPB hcb hpb
                          generalize w64 s.a = a64 at HA64 HA0 hj'
                          have hu := HA64.out
                          have ha0 := HA0.out.1
                          have hjb : 0 ≤ j ∧ j < nn := by rw [hj']; exact ⟨Int.emod_nonneg _ (by omega), Int.emod_lt_of_pos _ (by omega)⟩
                          have hjw : a64 % nn = j := hj'.symm
                          have hjw2 : wrap64 j = j := by unfold wrap64; omega
                          clear k1 k2 k5 hj' hwb hcc
                          go_upto_region 25 with fail
                          refine region_quiet (by kernel_rfl) (by kernel_rfl) ?_
                          repeat go_big_quiet_step ((first | (go_at_call 31; exact Calls.quiet_of_same (HPB.out _)) | exact Calls.quiet_of (HSZ.out _)))
                          refine wpQuiet_nil ?_
                          intro m
                          go_upto_region 35 with (first | (go_at_call 32; refine (HRI.out _).mono ?_; rintro e w' ⟨rfl, hw'⟩; obtain rfl := hw'.symm))
                          refine region_quiet_tail_at 10 (by kernel_rfl) (by kernel_rfl) ?_
                          simp only [List.take_succ_cons, List.take_zero, List.drop_succ_cons, List.drop_zero]
                          repeat go_big_quiet_step ((go_at_call 31; exact Calls.quiet_of_same (HPB.out _)))
                          refine wpQuiet_nil ?_
                          intro m2
                          go_wp2_with fail
                          refine (HSE.out m2).mono ?_
                          rintro e w6 ⟨rfl, hp6⟩
                          have HP6 := Lib.hid hp6
                          clear hp6 HSE HSZ
                          go_wp2_with fail
                          go_meet
                          exact ⟨_, hc, rfl, by rw [HST.out], Lib.hid (by rw [HST.out]; exact HP6.out.more (by omega))⟩
                  · have b1 : (s.kind == 1) = false := beq_eq_false_iff_ne.2 (by omega)
                    have b2 : (s.kind == 2) = false := beq_eq_false_iff_ne.2 (by omega)
                    have b5 : (s.kind == 5) = false := beq_eq_false_iff_ne.2 (by omega)
                    by_cases k3 : s.kind = 3
                    · have b3 : (s.kind == 3) = true := by rw [k3]; rfl
                      have kd1 := cell_at HX.out.dq (o := 1) rfl
                      have HFO := Lib.hid (pv_force HD.out HX.out (by omega))
                      have HST := Lib.hid (stepP_force (T := T) k3)
                      clear k3 k125 k0 kb1 kb2 kb3 kd2 kd3 kd4
                      go_wp2_with fail
                      refine HFO.out.mono ?_
                      rintro e w4 ⟨a', c', rfl, hp4⟩
                      have HP4 := Lib.hid hp4
                      clear hp4 HFO kd1
                      go_wp2_with fail
                      go_meet
                      exact ⟨a', c', rfl, by rw [HST.out], Lib.hid (by rw [HST.out]; exact HP4.out)⟩
                    · have b3 : (s.kind == 3) = false := beq_eq_false_iff_ne.2 k3
                      by_cases k4 : s.kind = 4
                      · have b4 : (s.kind == 4) = true := by rw [k4]; rfl
                        obtain ⟨g, rfl, hcell, hfr⟩ := HX.out.slot
                        have hpc := placeOf_lt s.c
                        have HPC := Lib.hid (place_any s.c)
                        have HST := Lib.hid (stepP_free (T := T) k4)
                        have HHL := Lib.hid (HX.out.hold HD.out hpc wd_one)
                        generalize placeOf s.c = pc at hpc HPC HHL HST
                        have hck := hcell pc hpc
                        have hfk := hfr pc
                        clear k4 k3 k125 k0 kb1 kb2 kd2 kd3 kd4 hcell hfr
                        go_wp2_with (go_at_call 31; refine (HPC.out _).mono ?_; rintro e w' ⟨rfl, hw'⟩; obtain rfl := hw'.symm)
                        go_meet
                        exact ⟨_, hc, rfl, by rw [HST.out], Lib.hid (by rw [HST.out]; exact HHL.out.more (by omega))⟩
                      · have b4 : (s.kind == 4) = false := beq_eq_false_iff_ne.2 k4
                        have HST := Lib.hid (stepP_none (T := T) (s := s) (by omega))
                        clear k4 k3 k125 k0 kb1 kb2 kb3 kd2 kd3 kd4
                        go_wp2_with fail
                        go_meet
                        exact ⟨_, hc, rfl, by rw [HST.out], Lib.hid (by rw [HST.out]; exact HX.out.more (by omega))⟩
              case rest =>
                obtain ⟨ha, hc, rfl, rfl, HY⟩ := hcut
                have HSU := Lib.hid (plK_succ forced n hlt)
                obtain ⟨er, her⟩ : ∃ er, er = (stepP T s).2 := ⟨_, rfl⟩
                obtain ⟨T2, hT2⟩ : ∃ T2, T2 = (stepP T s).1 := ⟨_, rfl⟩
                rw [← hT2] at HY
                rw [← her]
                have HEQ := Lib.hid (show plK forced n l (k + 1) = T2 ∧ erK forced n l (k + 1) = erK forced n l k ++ [er] by
                  rw [hT2, her, HT.out, HSK.out]
                  exact HSU.out)
                have HO1 := Lib.hid (HY.out.errs.alloc (.cells #[.int .i64 er] 46))
                have hszc := HY.out.pm.chg.size
                clear her hT2 HSU HX kb0
                go_wp2_with (at_builtin; refine wpList_append_own_at _ rfl _ _ 29 rfl W.heap.size 46 j0 (.int .i64 0) 1 8 Try.underlying29 hj hy0 hy1 hy2 rfl (by decide) _ _ _ rfl HO1.out ⟨wc.heap.size, 0, none⟩ 1 1 [.int .i64 er] rfl rfl (by exact cell_one_new wc _ _) (ints_oneCell .i64 [er]) (by unfold maxLen; omega) (by omega) (by simp only [size_alloc]; omega) ?_; intro v' w4 hown4 hgrow4 hnil hloc; rw [size_alloc] at hloc; have HPP := Lib.hid (HY.out.push HD.out hgrow4 hown4 hloc); obtain ⟨ka', kc', hv'⟩ := ownsRow_slice hown4; clear hown4 hgrow4 hnil hloc; subst hv')
                go_roundg (l.length - (k + 1))
                case measure => omega
                case rel =>
                  refine ⟨k + 1, ha, hc, ka', kc', rfl, by omega, by omega, by go_num, rfl, rfl, ?_⟩
                  rw [HEQ.out.1, HEQ.out.2]
                  exact HPP.out.more (by omega)
          · obtain rfl : k = 80 := by omega
            have hdec2 : decide ((80 : Int) < 80) = false := by decide
            have HP := Lib.hid hp
            have HMI := Lib.hid (show min l.length 80 = 80 by omega)
            clear hp
            go_wp2_with fail
            go_ret2
            obtain ⟨F', q1, q2, q3⟩ := HP.out.pm.ex
            have q4 : ∀ b, (Value.slice ha 8 hc).ownBlock = some b → b ∉ F' := fun b hb => (q3 b (by simp [hb])).1
            rw [HMI.out]
            exact ⟨_, _, F', rfl, HP.out.pm.chg, q1, q2, HP.out.held, q4, HP.out.errs, HP.out.hld⟩
        · obtain rfl : k = l.length := by omega
          have hdec : decide ((l.length : Int) < (l.length : Int)) = false := decide_eq_false (by omega)
          have HP := Lib.hid hp
          have HMI := Lib.hid (show min l.length 80 = l.length by omega)
          clear hp
          go_wp2_with fail
          go_ret2
          obtain ⟨F', q1, q2, q3⟩ := HP.out.pm.ex
          have q4 : ∀ b, (Value.slice ha 8 hc).ownBlock = some b → b ∉ F' := fun b hb => (q3 b (by simp [hb])).1
          rw [HMI.out]
          exact ⟨_, _, F', rfl, HP.out.pm.chg, q1, q2, HP.out.held, q4, HP.out.errs, HP.out.hld⟩

end Go.Proofs.Ytleoedjjepkhgaa
