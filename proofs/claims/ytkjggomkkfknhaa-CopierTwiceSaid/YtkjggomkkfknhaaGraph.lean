import Derived.Test.YtkjggomkkfknhaaNodes
import Derived.Test.YtkjggomkkfknhaaFloat
import Derived.BigQuiet
/- graph: all that can be seen from roots. -/
namespace Go.Proofs.Ytkjggomkkfknhaa
open Go.RowKit

theorem row_word' {w : World} {base : Nat} {a : Option Addr} {n cap : Nat} {xs : List Int} (hr : w.ownsRow base 52 1 (.slice a n cap) n (words xs)) {k : Nat} (hk : k < n) :
    ∃ g, a = some ⟨g, 0, none⟩ ∧ g < w.heap.size ∧ w.cell? ⟨g, k, none⟩ = some (.int .u64 (wat xs k)) := by
  have hl : xs.length = n := by have := hr.1; simpa [words] using this
  rcases hr.2 with ⟨h1, h2⟩ | ⟨g, cap, cur, h1, _, h3, _, _, h4, h5⟩
  · omega
  · simp only [Value.slice.injEq] at h1
    refine ⟨g, h1.1, lt_of_heap h3, cell_at h3 ?_⟩
    have h6 := words_get (xs := xs) (k := k) (by omega)
    rw [← h5, List.getElem?_take] at h6
    simpa [hk] using h6

theorem ptrs_at' {S : St} {g : List Nat} {k i : Nat} (h : g[k]? = some i) : wat (ptrs S g) k = 2 * ((S.pos i : Nat) : Int) := by
  unfold wat ptrs
  rw [List.getD_eq_getElem?_getD, List.getElem?_map, h]
  rfl

section
variable {W w : World} {p h c : Nat} {sv : Value} {cs : List Int} {S : St}

/-- in the second loop -/
structure G2 (W wr : World) (p : Nat) (S : St) (G : List Nat) (bA bM : Nat) (mv fv tv rv : Value) (roots : List Int) (kt : Nat) (out : List Nat) (T : Nat) (rows : List (List Nd × Value)) : Prop where
  gs : GS W wr p S bA bM mv out
  fst : wr.ownsRow W.heap.size 88 3 fv roots.length (ndCs (roots.map (node S G)))
  old : ∀ b, fv.ownBlock = some b → b < T
  tags : wr.ownsRow W.heap.size 3 1 tv kt (nats ((G.take kt).map fun i => (S.blk i).tag))
  fr : FR wr W.heap.size T rv rows

section
variable {wr wr' : World} {G : List Nat} {bA bM : Nat} {mv fv tv rv : Value} {roots : List Int} {kt : Nat} {out : List Nat} {T : Nat} {rows : List (List Nd × Value)}

theorem G2.after (H : G2 W wr p S G bA bM mv fv tv rv roots kt out T rows) (hc : Chg [] wr wr') : G2 W wr' p S G bA bM mv fv tv rv roots kt out T rows :=
  ⟨H.gs.after hc, ownsRow_chg H.fst hc (by simp), H.old, ownsRow_chg H.tags hc (by simp), H.fr.keep hc (by simp)⟩

theorem G2.more {T' : Nat} (H : G2 W wr p S G bA bM mv fv tv rv roots kt out T rows) (h : T ≤ T') : G2 W wr p S G bA bM mv fv tv rv roots kt out T' rows :=
  ⟨H.gs, H.fst, fun b hb => Nat.lt_of_lt_of_le (H.old b hb) h, H.tags, H.fr.more h⟩

theorem G2.top (H : G2 W wr p S G bA bM mv fv tv rv roots kt out T rows) : G2 W wr p S G bA bM mv fv tv rv roots kt out wr.heap.size rows :=
  ⟨H.gs, H.fst, fun b hb => (H.fst.lt b hb).2, H.tags, H.fr.top⟩

/-- a word is met -/
theorem G2.see {mv' : Value} {out' : List Nat} (H : G2 W wr p S G bA bM mv fv tv rv roots kt out T rows) (hg : GS W wr' p S bA bM mv' out') (hc : Chg (bM :: mv.ownBlock.toList) wr wr') : G2 W wr' p S G bA bM mv' fv tv rv roots kt out' T rows :=
  ⟨hg, row_keep H.fst (Nat.le_refl _) hc (gs_apart H.gs (by decide) (by decide)), H.old, row_keep H.tags (Nat.le_refl _) hc (gs_apart H.gs (by decide) (by decide)), H.fr.keep hc (gs_apart H.gs (by decide) (by decide))⟩

/-- a tag more -/
theorem G2.tag {w2 : World} {tv' : Value} {kt' : Nat} (H : G2 W wr p S G bA bM mv fv tv rv roots kt out T rows) (hbA : W.heap.size ≤ bA) (hc : Chg [] wr w2) (hg : w2.grownBy wr' tv.ownBlock)
    (hown : wr'.ownsRow W.heap.size 3 1 tv' kt' (nats ((G.take kt').map fun i => (S.blk i).tag))) : G2 W wr' p S G bA bM mv fv tv' rv roots kt' out T rows := by
  have hch : Chg tv.ownBlock.toList wr wr' := (hc.mono (by simp)).grown hg (fun k hk => .inl (by rw [hk]; simp))
  have hW : Chg [] W wr' := (H.gs.chg.trans hc).grown hg (fun k hk => .inr (H.tags.lt k hk).1)
  exact ⟨H.gs.keep hbA hch hW (own_apart H.tags (by decide)), row_keep H.fst (Nat.le_refl _) hch (own_apart H.tags (by decide)), H.old, hown, H.fr.keep hch (own_apart H.tags (by decide))⟩

/-- a node more in the young row -/
theorem G2.young {w2 : World} {lv : Value} {n : Nat} {xs : List Value} (H : G2 W wr p S G bA bM mv fv tv rv roots kt out T rows) (hbA : W.heap.size ≤ bA) (hT : W.heap.size ≤ T) (hl : wr.ownsRow T 88 3 lv n xs) (hc : Chg [] wr w2) (hg : w2.grownBy wr' lv.ownBlock) :
    G2 W wr' p S G bA bM mv fv tv rv roots kt out T rows := by
  have hch : Chg lv.ownBlock.toList wr wr' := (hc.mono (by simp)).grown hg (fun k hk => .inl (by rw [hk]; simp))
  have hW : Chg [] W wr' := (H.gs.chg.trans hc).grown hg (fun k hk => .inr (Nat.le_trans hT (hl.lt k hk).1))
  refine ⟨H.gs.keep hbA hch hW (own_apart hl (by decide)), ownsRow_chg H.fst hch fun k hk hm => ?_, H.old, row_keep H.tags (Nat.le_refl _) hch (own_apart hl (by decide)), H.fr.young hc hg hl⟩
  rw [Option.mem_toList] at hm
  have h1 := H.old k hk
  have h2 := (hl.lt k hm).1
  omega

/-- a row more -/
theorem G2.row {w2 : World} {lv rv' : Value} {l : List Nd} (H : G2 W wr p S G bA bM mv fv tv rv roots kt out T rows) (hbA : W.heap.size ≤ bA) (hT : W.heap.size ≤ T) (hl : wr.ownsRow T 88 3 lv l.length (ndCs l)) (hc : Chg [] wr w2) (hg : w2.grownBy wr' rv.ownBlock)
    (hown : wr'.ownsRow W.heap.size 39 1 rv' (rows.length + 1) (rows.map (·.2) ++ [lv])) :
    G2 W wr' p S G bA bM mv fv tv rv' roots kt out wr'.heap.size (rows ++ [(l, lv)]) := by
  have hch : Chg rv.ownBlock.toList wr wr' := (hc.mono (by simp)).grown hg (fun k hk => .inl (by rw [hk]; simp))
  have hW : Chg [] W wr' := (H.gs.chg.trans hc).grown hg (fun k hk => .inr (H.fr.row.lt k hk).1)
  have hf := row_keep H.fst (Nat.le_refl _) hch (own_apart H.fr.row (by decide))
  exact ⟨H.gs.keep hbA hch hW (own_apart H.fr.row (by decide)), hf, fun b hb => (hf.lt b hb).2, row_keep H.tags (Nat.le_refl _) hch (own_apart H.fr.row (by decide)), H.fr.push hc (own_low hl hT) hg hown⟩
end

def outJ (S : St) (b : Blk) (out : List Nat) (j : Nat) : List Nat := if b.tag = 202 then out else (b.fs.take j).foldl (meet S) out
def ndJ (S : St) (G : List Nat) (b : Blk) (j : Nat) : Nd := if b.tag = 202 then ⟨-1, 0, wat b.fs j⟩ else node S G (wat b.fs j)

theorem outJ_zero (S : St) (b : Blk) (out : List Nat) : outJ S b out 0 = out := by unfold outJ; split <;> rfl
theorem outJ_all (S : St) (b : Blk) (out : List Nat) : outJ S b out b.fs.length = b.words.foldl (meet S) out := by
  unfold outJ Blk.words; split
  · rfl
  · rw [List.take_length]
theorem outJ_pre (S : St) (b : Blk) (out : List Nat) (j : Nat) : out <+: outJ S b out j := by
  unfold outJ; split
  · exact List.prefix_refl _
  · exact prefix_meets S _ _
theorem outJ_good {S : St} (b : Blk) {out : List Nat} (h : Good S out) (j : Nat) : Good S (outJ S b out j) := by
  unfold outJ; split
  · exact h
  · exact good_meets _ h
theorem nodesOf_len (S : St) (G : List Nat) (b : Blk) : (nodesOf S G b).length = b.fs.length := by unfold nodesOf; split <;> simp
theorem nodesOf_take (S : St) (G : List Nat) (b : Blk) {j : Nat} (hj : j < b.fs.length) : (nodesOf S G b).take (j + 1) = (nodesOf S G b).take j ++ [ndJ S G b j] := by
  have h : (nodesOf S G b)[j]? = some (ndJ S G b j) := by
    unfold nodesOf ndJ
    split <;> simp [wat_get hj]
  rw [List.take_add_one, h]; rfl

set_option maxHeartbeats 4000000 in
set_option maxRecDepth 100000 in
theorem graph_am (HA : AM W p h c sv cs S) (rv : Value) (roots : List Int) (hr : W.ownsRow 0 52 1 rv roots.length (words roots)) (hw : ∀ x ∈ roots, Wd x) (hrl : roots.length ≤ 1000000) :
    Calls Try.prog 18 #[.pointer (some ⟨p, 0, none⟩), rv] W fun e w' => ∃ fv tv mv rows, e = .returned (.tuple #[fv, tv, mv]) ∧ Chg [] W w' ∧
      w'.ownsRow W.heap.size 88 3 fv roots.length (ndCs (roots.map (node S (S.reach roots)))) ∧
      w'.ownsRow W.heap.size 3 1 tv (S.reach roots).length (nats ((S.reach roots).map fun i => (S.blk i).tag)) ∧
      FR w' W.heap.size w'.heap.size mv rows ∧ rows.map (·.1) = (S.reach roots).map fun i => nodesOf S (S.reach roots) (S.blk i) := by
  obtain ⟨ra, rc, rfl⟩ := ownsRow_slice hr
  have HHR := Lib.hid hr
  clear hr
  obtain ⟨G, hG⟩ : ∃ G, G = S.reach roots := ⟨_, rfl⟩
  rw [← hG]
  have HG := Lib.hid hG
  clear hG
  go_enter Try.func18, Try.ntmps18
  go_wp2
  have gs0 : GS W ((((W.alloc (Obj.cells #[Value.pointer (some ⟨p, 0, none⟩)] 25)).alloc (Obj.cells #[] 52)).alloc (Obj.cells #[Value.slice (some ⟨W.heap.size + 1, 0, none⟩) 0 0] 23)).alloc (Obj.cells #[] 88)) p S W.heap.size (W.heap.size + 1 + 1) (.slice (some ⟨W.heap.size + 1, 0, none⟩) 0 0) [] := by
    refine ⟨((((Chg.refl [] W).alloc _).alloc _).alloc _).alloc _, ?_, ?_, ?_, ⟨List.nodup_nil, by simp⟩, by omega⟩
    · iterate 3 rw [Below.heap_alloc _ _ _ (by simp only [size_alloc]; omega)]
      exact heap_alloc_new _ _
    · rw [Below.heap_alloc _ _ _ (by simp only [size_alloc]; omega)]
      exact heap_at_new _ _ (by simp only [size_alloc])
    · refine ⟨rfl, .inr ⟨W.heap.size + 1, 0, #[], rfl, by omega, ?_, Nat.le_refl _, by unfold maxLen; omega, rfl, rfl⟩⟩
      iterate 2 rw [Below.heap_alloc _ _ _ (by simp only [size_alloc]; omega)]
      exact heap_at_new _ _ (by simp only [size_alloc])
  have hf0 : ((((W.alloc (Obj.cells #[Value.pointer (some ⟨p, 0, none⟩)] 25)).alloc (Obj.cells #[] 52)).alloc (Obj.cells #[Value.slice (some ⟨W.heap.size + 1, 0, none⟩) 0 0] 23)).alloc (Obj.cells #[] 88)).ownsRow W.heap.size 88 3 (.slice (some ⟨W.heap.size + 1 + 1 + 1, 0, none⟩) 0 0) 0 [] :=
    ⟨rfl, .inr ⟨W.heap.size + 1 + 1 + 1, 0, #[], rfl, by omega, heap_at_new _ _ (by simp only [size_alloc]), Nat.le_refl _, by unfold maxLen; omega, rfl, rfl⟩⟩
  have H0 := Lib.hid (And.intro gs0 hf0)
  clear gs0 hf0
  generalize ((((W.alloc (Obj.cells #[Value.pointer (some ⟨p, 0, none⟩)] 25)).alloc (Obj.cells #[] 52)).alloc (Obj.cells #[Value.slice (some ⟨W.heap.size + 1, 0, none⟩) 0 0] 23)).alloc (Obj.cells #[] 88)) = w0 at H0 ⊢
  generalize W.heap.size + 1 + 1 + 1 = b3 at H0 ⊢
  generalize W.heap.size + 1 + 1 = bM at H0 ⊢
  generalize W.heap.size + 1 = b1 at H0 ⊢
  obtain ⟨bA, hbA⟩ : ∃ bA, bA = W.heap.size := ⟨_, rfl⟩
  rw [← hbA] at H0 ⊢
  have hbA' : W.heap.size ≤ bA := by omega
  clear hbA
  obtain ⟨i1, hi1, hz10, hz11, hz12⟩ := info_parts info_node
  go_loopg [9, 23] roots.length (fun gh v9 v23 wr => ∃ k : Nat, gh = roots.length - k ∧ k ≤ roots.length ∧ v23 = .int .i64 k ∧ ∃ fa fc mv, v9 = .slice fa k fc ∧ GS W wr p S bA bM mv ((roots.take k).foldl (meet S) []) ∧ wr.ownsRow W.heap.size 88 3 (.slice fa k fc) k (ndCs ((roots.take k).map (node S G))))
  case atStart => exact ⟨0, rfl, Nat.zero_le _, rfl, _, _, _, rfl, H0.out.1, own_low H0.out.2 hbA'⟩
  case round =>
    clear H0
    obtain ⟨k, hgk, hk, rfl, fa, fc, mv, rfl, hgs, hfr⟩ := hrel
    by_cases hlt : k < roots.length
    · have hdec : decide ((k : Int) < (roots.length : Int)) = true := decide_eq_true (by omega)
      obtain ⟨ga, rfl, la, ca⟩ := row_word' (ownsRow_chg HHR.out hgs.chg (by simp)) hlt
      have hwd := hw (wat roots k) (wat_mem hlt)
      have hsee := see_am HA hgs (wat roots k) hwd.1 hwd.2
      have hpre : meet S ((roots.take k).foldl (meet S) []) (wat roots k) <+: G := by
        rw [← take_foldl_succ S roots hlt, HG.out]
        exact (take_foldl_pre S roots (k + 1) []).trans (prefix_outs S roots (Nat.zero_le _))
      rw [node_pre hpre meet_has] at hsee
      have hts := take_foldl_succ S roots hlt []
      have htm := take_map_succ (node S G) roots hlt
      generalize node S G (wat roots k) = nd at hsee htm
      unfold ndV at hsee
      have HSEE := Lib.hid hsee
      have HGS := Lib.hid hgs
      have HFR := Lib.hid hfr
      have HTS := Lib.hid hts
      have HTM := Lib.hid htm
      clear hsee hgs hfr hpre hts htm
      go_wp2_with fail
      refine HSEE.out.mono ?_
      rintro e w2 ⟨rfl, mv', hgs2, hc2, hloc2⟩
      have hf2 := row_keep HFR.out (Nat.le_refl _) hc2 (gs_apart HGS.out (by decide) (by decide))
      have HF2 := Lib.hid hf2
      have HO2 := Lib.hid (hf2.alloc (.cells #[.int .i64 nd.place, .int .i64 (nd.dist : Int), .int .u64 nd.w] 88))
      have HCT := Lib.hid (cells_three w2 (.int .i64 nd.place) (.int .i64 (nd.dist : Int)) (.int .u64 nd.w) 88)
      have HGS2 := Lib.hid hgs2
      have hsz := hgs2.chg.size
      clear hf2 hgs2 hc2 hloc2 HSEE
      go_wp2_with (at_builtin; refine wpList_append_own_at _ rfl _ _ 39 rfl W.heap.size 88 i1 (.agg #[.int .i64 0, .int .i64 0, .int .u64 0]) 3 24 Try.underlying39 hi1 hz10 hz11 hz12 rfl (by decide) _ _ _ rfl HO2.out ⟨w2.heap.size, 0, none⟩ 1 1 [.int .i64 nd.place, .int .i64 (nd.dist : Int), .int .u64 nd.w] rfl rfl HCT.out (by intro u hu; simp at hu; rcases hu with rfl | rfl | rfl <;> rfl) (by unfold maxLen; omega) (by omega) (by simp only [size_alloc]; omega) ?_; intro v' w4 hown4 hgrow4 hnil hloc; have HO4 := Lib.hid hown4; have HG4 := Lib.hid (show (w2.alloc (.cells #[.int .i64 nd.place, .int .i64 (nd.dist : Int), .int .u64 nd.w] 88)).grownBy w4 (Value.slice fa k fc).ownBlock from hgrow4); obtain ⟨fa', fc', hv'⟩ := ownsRow_slice hown4; clear hown4 hgrow4 hnil hloc; subst hv')
      go_roundg (roots.length - (k + 1))
      case measure => omega
      case rel =>
        refine ⟨k + 1, rfl, by omega, by go_num, fa', fc', mv', rfl, ?_, ?_⟩
        · rw [HTS.out]
          have hch4 : Chg (Value.slice fa k fc).ownBlock.toList w2 w4 := ((Chg.refl _ w2).alloc _).grown HG4.out (fun k hk => .inl (by rw [hk]; simp))
          exact HGS2.out.keep hbA' hch4 ((HGS2.out.chg.alloc _).grown HG4.out (fun k hk => .inr (HF2.out.lt k hk).1)) (own_apart HF2.out (by decide))
        · rw [HTM.out, ndCs_push]
          exact HO4.out
    · obtain rfl : k = roots.length := by omega
      have hdec : decide ((roots.length : Int) < (roots.length : Int)) = false := decide_eq_false (by omega)
      rw [List.take_length] at hgs hfr
      have HGS := Lib.hid hgs
      have HFR := Lib.hid hfr
      clear hgs hfr
      go_wp2
      have hc2 : Chg [] wr ((wr.alloc (Obj.cells #[] 3)).alloc (Obj.cells #[] 39)) := ((Chg.refl [] wr).alloc _).alloc _
      have hst : G2 W ((wr.alloc (Obj.cells #[] 3)).alloc (Obj.cells #[] 39)) p S G bA bM mv (.slice fa roots.length fc) (.slice (some ⟨wr.heap.size, 0, none⟩) 0 0) (.slice (some ⟨wr.heap.size + 1, 0, none⟩) 0 0) roots 0 (outs S roots 0) wr.heap.size [] := by
        have hsz := HGS.out.chg.size
        refine ⟨HGS.out.after hc2, ownsRow_chg HFR.out hc2 (by simp), fun b hb => (HFR.out.lt b hb).2, ⟨rfl, .inr ⟨wr.heap.size, 0, #[], rfl, hsz, ?_, Nat.le_refl _, by unfold maxLen; omega, rfl, rfl⟩⟩, ⟨rfl, .inr ⟨wr.heap.size + 1, 0, #[], rfl, by omega, heap_at_new _ _ (by simp only [size_alloc]), Nat.le_refl _, by unfold maxLen; omega, rfl, rfl⟩⟩, by simp⟩
        rw [Below.heap_alloc _ _ _ (by simp only [size_alloc]; omega)]
        exact heap_alloc_new _ _
      have HST := Lib.hid hst
      clear hst HGS HFR hc2
      generalize (wr.alloc (Obj.cells #[] 3)).alloc (Obj.cells #[] 39) = w5 at HST ⊢
      generalize wr.heap.size + 1 = b6 at HST ⊢
      generalize wr.heap.size = b5 at HST ⊢
      go_loopg [11, 12, 13] S.L.length (fun gh v11 v12 v13 wr => ∃ k mv ta tc qa qc rows T, gh = S.L.length - k ∧ k ≤ (outs S roots k).length ∧ v13 = .int .i64 ((k : Nat) : Int) ∧ v11 = .slice ta k tc ∧ v12 = .slice qa k qc ∧ rows.map (·.1) = (G.take k).map (fun i => nodesOf S G (S.blk i)) ∧
        G2 W wr p S G bA bM mv (.slice fa roots.length fc) (.slice ta k tc) (.slice qa k qc) roots k (outs S roots k) T rows)
      case atStart => exact ⟨0, mv, _, _, _, _, [], _, rfl, Nat.zero_le _, rfl, rfl, rfl, rfl, HST.out⟩
      case round =>
        clear HST
        obtain ⟨k, mv, ta, tc, qa, qc, rows, T, hgk, hk, rfl, rfl, rfl, hrows, hm⟩ := hrel
        have hlen := (good_outs S roots k).length_le
        have hcnt := HA.count
        have hpre : outs S roots k <+: G := by
          rw [HG.out]
          by_cases hkS : k ≤ S.L.length
          · exact prefix_outs S roots hkS
          · omega
        have kM := cell_at hm.gs.kM (o := 0) rfl
        obtain ⟨ma, mc, rfl⟩ := ownsRow_slice hm.gs.row
        by_cases hlt : k < (outs S roots k).length
        · have hdec : decide ((k : Int) < ((outs S roots k).length : Int)) = true := decide_eq_true (by omega)
          obtain ⟨i, hi⟩ : ∃ i, (outs S roots k)[k]? = some i := ⟨_, List.getElem?_eq_getElem hlt⟩
          have hil : i < S.L.length := (good_outs S roots k).lt i (List.mem_of_getElem? hi)
          have hiG : G[k]? = some i := by
            obtain ⟨t, rfl⟩ := hpre
            rw [List.getElem?_append_left hlt]; exact hi
          have hrl : rows.length = k := by
            have h1 := congrArg List.length hrows
            have h2 := (List.getElem?_eq_some_iff.1 hiG).1
            rw [List.length_map, List.length_map, List.length_take] at h1
            omega
          have hmet : ∀ (w' : World) (mv' : Value) (out' : List Nat), GS W w' p S bA bM mv' out' → out'[k]? = some i → ∃ g c2, mv' = .slice (some ⟨g, 0, none⟩) out'.length c2 ∧ w'.cell? ⟨bM, 0, none⟩ = some mv' ∧ w'.cell? ⟨g, k, none⟩ = some (.int .u64 (2 * ((S.pos i : Nat) : Int))) := by
            intro w' mv' out' hg hk'
            obtain ⟨a, c2, rfl⟩ := ownsRow_slice hg.row
            obtain ⟨g, rfl, _, hc⟩ := row_word' hg.row (List.getElem?_eq_some_iff.1 hk').1
            refine ⟨g, c2, rfl, cell_at hg.kM rfl, ?_⟩
            rw [hc, ptrs_at' hk']
          have HMET := Lib.hid hmet
          have hsuccG : ∀ j, outJ S (S.blk i) (outs S roots k) j <+: G := by
            intro j
            have h1 : (S.blk i).words.foldl (meet S) (outs S roots k) = outs S roots (k + 1) := by
              show _ = (match (outs S roots k)[k]? with | none => outs S roots k | some i => (S.blk i).words.foldl (meet S) (outs S roots k))
              rw [hi]
            have h2 : outs S roots (k + 1) <+: G := by
              rw [HG.out]
              exact prefix_outs S roots (by omega)
            rw [← h1] at h2
            unfold outJ
            unfold Blk.words at h2
            split
            · exact hpre
            · rename_i hne
              rw [if_neg hne] at h2
              exact (take_foldl_pre S _ j _).trans h2
          have HSG := Lib.hid hsuccG
          clear hsuccG
          obtain ⟨gm, mc', hmv, _, cm⟩ := hmet wr _ _ hm.gs hi
          simp only [Value.slice.injEq] at hmv
          obtain ⟨rfl, _, rfl⟩ := hmv
          have hpl := pos_le HA.ok hil
          have kA := cell_at hm.gs.kA (o := 0) (v := .pointer (some ⟨p, 0, none⟩)) rfl
          have hTg : ∀ w', Chg [] W w' → ∀ N, Calls Try.prog 27 #[.pointer (some ⟨p, 0, none⟩), .int .u64 (2 * ((S.pos i : Nat) : Int))] (w'.drewN N) fun e w'' => e = .returned (.int .i64 (((S.blk i).tag : Nat) : Int)) ∧ ∃ n, w'' = (w'.drewN N).drewN n := by
            intro w' hc N
            have := tag_am ((HA.chg hc (by simp)).drewN N) (2 * ((S.pos i : Nat) : Int)) (by omega) (by omega)
            unfold St.tagOf at this
            rw [find_ptr HA.ok hil] at this
            exact this
          have hSz : ∀ w', Chg [] W w' → ∀ N, Calls Try.prog 25 #[.pointer (some ⟨p, 0, none⟩), .int .u64 (2 * ((S.pos i : Nat) : Int))] (w'.drewN N) fun e w'' => e = .returned (.int .i64 (((S.blk i).fs.length : Nat) : Int)) ∧ ∃ n, w'' = (w'.drewN N).drewN n := by
            intro w' hc N
            have := size_am ((HA.chg hc (by simp)).drewN N) (2 * ((S.pos i : Nat) : Int)) (by omega) (by omega)
            unfold St.sizeOf at this
            rw [find_ptr HA.ok hil] at this
            exact this
          have hGt : ∀ w', Chg [] W w' → ∀ N (j : Nat), j < (S.blk i).fs.length → Calls Try.prog 28 #[.pointer (some ⟨p, 0, none⟩), .int .u64 (2 * ((S.pos i : Nat) : Int)), .int .i64 (j : Int)] (w'.drewN N) fun e w'' => e = .returned (.tuple #[.int .u64 (wat (S.blk i).fs j), .int .i64 0]) ∧ ∃ n, w'' = (w'.drewN N).drewN n := by
            intro w' hc N j hj
            have := get_am ((HA.chg hc (by simp)).drewN N) (2 * ((S.pos i : Nat) : Int)) j (by omega) (by omega)
            unfold St.get at this
            rw [find_ptr HA.ok hil] at this
            dsimp only at this
            rw [if_neg (by omega), Int.toNat_natCast] at this
            exact this
          have hTg1 := hTg wr hm.gs.chg
          have HTG := Lib.hid hTg
          have HSZ := Lib.hid hSz
          have HGT := Lib.hid hGt
          have HM := Lib.hid hm
          have HI := Lib.hid (And.intro hi hiG)
          have HROWS := Lib.hid (And.intro hrows hrl)
          have HPRE := Lib.hid hpre
          have hkl : k < 32768 := by omega
          have htt : ∀ n, (G.take (k + 1)).map (fun i => (S.blk i).tag) = (G.take k).map (fun i => (S.blk i).tag) ++ [n] ↔ n = (S.blk i).tag := by
            intro n
            rw [List.take_add_one, hiG, List.map_append]
            simp [eq_comm]
          have HTT := Lib.hid ((htt _).2 rfl)
          clear hTg hSz hGt hm hi hiG hrows hrl hpre hmet htt
          obtain ⟨j0, hj0, hjz0, hjz1, hjz2⟩ := info_parts info_int'
          obtain ⟨k0, hk0, hkz0, hkz1, hkz2⟩ := info_parts info_nodes
          go_upto_region 14 with fail
          refine region_float_tail [0] [1, 2, 3, 4, 5, 6] 7 (by kernel_rfl) (by kernel_rfl) (by intro _ _ d _ _ h; cases d <;> exact h) ?_
          simp only [List.cons_append, List.nil_append, List.filterMap_cons, List.filterMap_nil, List.getElem?_cons_zero, List.getElem?_cons_succ, List.drop_succ_cons, List.drop_zero]
          refine show wpQuiet _ _ _ _ [_, _, _, _, _, _, _] _ from ?_
          repeat go_big_quiet_step ((go_at_call 27; exact Calls.quiet_of (hTg1 _)))
          refine wpQuiet_nil ?_
          intro m
          have HMm := Lib.hid (HM.out.after ((Chg.refl [] wr).drewN m))
          have hsz := HM.out.gs.chg.size
          clear hTg1 kM cm kA
          have HO1 := Lib.hid (HMm.out.tags.alloc (.cells #[.int .i64 (((S.blk i).tag : Nat) : Int)] 3))
          go_wp2_with (at_builtin; refine wpList_append_own_at _ rfl _ _ 40 rfl W.heap.size 3 j0 (.int .i64 0) 1 8 Try.underlying40 hj0 hjz0 hjz1 hjz2 rfl (by decide) _ _ _ rfl HO1.out ⟨wr.heap.size, 0, none⟩ 1 1 [.int .i64 (((S.blk i).tag : Nat) : Int)] rfl rfl (cell_one_new _ _ _) (ints_oneCell .i64 [(((S.blk i).tag : Nat) : Int)]) (by unfold maxLen; omega) (by omega) (by simp; omega) ?_; intro v' w4 hown4 hgrow4 hnil hloc; have HO4 := Lib.hid hown4; have HG4 := Lib.hid (show ((wr.drewN m).alloc (.cells #[.int .i64 (((S.blk i).tag : Nat) : Int)] 3)).grownBy w4 (Value.slice ta k tc).ownBlock from hgrow4); obtain ⟨ta', tc', hv'⟩ := ownsRow_slice hown4; clear hown4 hgrow4 hnil hloc; subst hv')
          have hm4 : G2 W w4 p S G bA bM (.slice (some ⟨gm, 0, none⟩) (outs S roots k).length mc) (.slice fa roots.length fc) (.slice ta' (k + 1) tc') (.slice qa k qc) roots (k + 1) (outs S roots k) T rows := by
            refine HMm.out.tag hbA' ((Chg.refl [] (wr.drewN m)).alloc _) HG4.out ?_
            have h := HO4.out
            rw [HTT.out]
            unfold nats at h ⊢
            rw [List.map_append]
            exact h
          have hst2 : G2 W (w4.alloc (Obj.cells #[] 88)) p S G bA bM (.slice (some ⟨gm, 0, none⟩) (outs S roots k).length mc) (.slice fa roots.length fc) (.slice ta' (k + 1) tc') (.slice qa k qc) roots (k + 1) (outs S roots k) w4.heap.size rows ∧
              (w4.alloc (Obj.cells #[] 88)).ownsRow w4.heap.size 88 3 (.slice (some ⟨w4.heap.size, 0, none⟩) 0 0) 0 [] :=
            ⟨hm4.top.after ((Chg.refl [] w4).alloc _), rfl, .inr ⟨w4.heap.size, 0, #[], rfl, Nat.le_refl _, heap_alloc_new _ _, Nat.le_refl _, by unfold maxLen; omega, rfl, rfl⟩⟩
          have HT4 := Lib.hid hm4.gs.chg.size
          have HT5 := Lib.hid (show w4.heap.size ≤ (w4.alloc (Obj.cells #[] 88)).heap.size by rw [size_alloc]; omega)
          have HST2 := Lib.hid hst2
          clear hm4 hst2 HMm HO1 HO4 HG4 HM HTT
          generalize w4.alloc (Obj.cells #[] 88) = w5 at HST2 HT5 ⊢
          generalize w4.heap.size = T4 at HST2 HT4 HT5 ⊢
          have hbo := HA.blkOk hil
          have hfl := hbo.size
          go_loopg [14, 15] (S.blk i).fs.length (fun gj v14 v15 wr2 => ∃ j la lc mv2, gj = (S.blk i).fs.length - j ∧ j ≤ (S.blk i).fs.length ∧ v14 = .slice la j lc ∧ v15 = .int .i64 ((j : Nat) : Int) ∧
            G2 W wr2 p S G bA bM mv2 (.slice fa roots.length fc) (.slice ta' (k + 1) tc') (.slice qa k qc) roots (k + 1) (outJ S (S.blk i) (outs S roots k) j) T4 rows ∧ wr2.ownsRow T4 88 3 (.slice la j lc) j (ndCs ((nodesOf S G (S.blk i)).take j)) ∧ T4 ≤ wr2.heap.size)
          case atStart => exact ⟨0, _, _, _, rfl, Nat.zero_le _, rfl, rfl, by rw [outJ_zero]; exact HST2.out.1, HST2.out.2, HT5.out⟩
          case round =>
            clear HST2 HT5
            obtain ⟨j, la, lc, mv2, hgj, hj, rfl, rfl, hn, hl, hTw⟩ := hrel
            have hki : (outJ S (S.blk i) (outs S roots k) j)[k]? = some i := by
              obtain ⟨t, ht⟩ := outJ_pre S (S.blk i) (outs S roots k) j
              rw [← ht, List.getElem?_append_left hlt]; exact HI.out.1
            obtain ⟨g2, c2, rfl, kM2, cm2⟩ := HMET.out wr _ _ hn.gs hki
            have kA2 := cell_at hn.gs.kA (o := 0) (v := .pointer (some ⟨p, 0, none⟩)) rfl
            have hol := (outJ_good (S.blk i) (good_outs S roots k) j).length_le
            have hko : k < (outJ S (S.blk i) (outs S roots k) j).length := (List.getElem?_eq_some_iff.1 hki).1
            generalize hoj : outJ S (S.blk i) (outs S roots k) j = oj at hn kM2 hol hko ⊢
            have HOJ := Lib.hid hoj
            have hs1 := HSZ.out wr hn.gs.chg
            have HN := Lib.hid (And.intro hn hl)
            clear hn hl hki hoj
            by_cases hlt2 : j < (S.blk i).fs.length
            · have hdec2 : decide ((j : Int) < ((S.blk i).fs.length : Int)) = true := decide_eq_true (by omega)
              go_upto_region 17 with fail
              refine region_quiet (by kernel_rfl) (by kernel_rfl) ?_
              repeat go_big_quiet_step ((go_at_call 25; exact Calls.quiet_of (hs1 _)))
              refine wpQuiet_nil ?_
              intro m1
              have hg1 := fun N => HGT.out wr HN.out.1.gs.chg N j hlt2
              clear hs1
              go_upto_region 19 with fail
              refine region_quiet_at (by kernel_rfl) (by kernel_rfl) ?_
              repeat go_big_quiet_step ((go_at_call 28; exact Calls.quiet_of (hg1 _)))
              refine wpQuiet_nil ?_
              intro m2
              clear hg1
              have ht1 := HTG.out wr HN.out.1.gs.chg
              by_cases ht : (S.blk i).tag = 202
              · have hdt : ((((S.blk i).tag : Nat) : Int) == 202) = true := beq_iff_eq.2 (by omega)
                have HT202 := Lib.hid ht
                clear ht
                go_upto_region 20 with fail
                refine region_quiet_at (by kernel_rfl) (by kernel_rfl) ?_
                repeat go_big_quiet_step ((go_at_call 27; exact Calls.quiet_of (ht1 _)))
                refine wpQuiet_nil ?_
                intro m3
                have hch6 := (Chg.refl [] wr).drewN m3
                have HO6 := Lib.hid ((ownsRow_chg HN.out.2 hch6 (by simp)).alloc (.cells #[.int .i64 (-1), .int .i64 0, .int .u64 (wat (S.blk i).fs j)] 88))
                have HCT := Lib.hid (cells_three (wr.drewN m3) (.int .i64 (-1)) (.int .i64 0) (.int .u64 (wat (S.blk i).fs j)) 88)
                have hszT := HT4.out
                have hszr := HN.out.1.gs.chg.size
                clear ht1 kM2 cm2 kA2
                go_wp2_with (at_builtin; refine wpList_append_own_at _ rfl _ _ 39 rfl T4 88 i1 (.agg #[.int .i64 0, .int .i64 0, .int .u64 0]) 3 24 Try.underlying39 hi1 hz10 hz11 hz12 rfl (by decide) _ _ _ rfl HO6.out ⟨wr.heap.size, 0, none⟩ 1 1 [.int .i64 (-1), .int .i64 0, .int .u64 (wat (S.blk i).fs j)] rfl rfl HCT.out (by intro u hu; simp at hu; rcases hu with rfl | rfl | rfl <;> rfl) (by unfold maxLen; omega) (by omega) (by simp only [size_alloc]; simp; omega) ?_; intro v' w7 hown7 hgrow7 hnil hloc; have HO7 := Lib.hid hown7; have HG7 := Lib.hid (show ((wr.drewN m3).alloc (.cells #[.int .i64 (-1), .int .i64 0, .int .u64 (wat (S.blk i).fs j)] 88)).grownBy w7 (Value.slice la j lc).ownBlock from hgrow7); obtain ⟨la', lc', hv'⟩ := ownsRow_slice hown7; clear hown7 hgrow7 hnil hloc; subst hv')
                go_roundg ((S.blk i).fs.length - (j + 1))
                case measure => omega
                case rel =>
                  refine ⟨j + 1, la', lc', .slice (some ⟨g2, 0, none⟩) oj.length c2, rfl, by omega, rfl, by go_num, ?_, ?_, Nat.le_trans hTw (Nat.le_trans (by simp) HG7.out.size)⟩
                  · have e : outJ S (S.blk i) (outs S roots k) (j + 1) = oj := by
                      rw [← HOJ.out]; unfold outJ; rw [if_pos HT202.out, if_pos HT202.out]
                    rw [e]
                    exact HN.out.1.young hbA' hszT HN.out.2 (hch6.alloc _) HG7.out
                  · rw [nodesOf_take S G (S.blk i) hlt2, ndCs_push]
                    have e : ndJ S G (S.blk i) j = ⟨-1, 0, wat (S.blk i).fs j⟩ := by unfold ndJ; rw [if_pos HT202.out]
                    rw [e]
                    exact HO7.out
              · have hdt : ((((S.blk i).tag : Nat) : Int) == 202) = false := beq_eq_false_iff_ne.2 (by omega)
                have HT202 := Lib.hid ht
                clear ht
                go_upto_region 20 with fail
                refine region_quiet_at (by kernel_rfl) (by kernel_rfl) ?_
                repeat go_big_quiet_step ((go_at_call 27; exact Calls.quiet_of (ht1 _)))
                refine wpQuiet_nil ?_
                intro m3
                have hch6 := (Chg.refl [] wr).drewN m3
                have hn6 := HN.out.1.after hch6
                have hl6 := ownsRow_chg HN.out.2 hch6 (by simp)
                have hwd := hbo.words (wat (S.blk i).fs j) (wat_mem hlt2)
                have hsee := see_am HA hn6.gs (wat (S.blk i).fs j) hwd.1 hwd.2
                have hoj2 : meet S oj (wat (S.blk i).fs j) = outJ S (S.blk i) (outs S roots k) (j + 1) := by
                  rw [← HOJ.out]
                  unfold outJ
                  rw [if_neg HT202.out, if_neg HT202.out, take_foldl_succ S _ hlt2]
                have hpre2 : meet S oj (wat (S.blk i).fs j) <+: G := by rw [hoj2]; exact HSG.out _
                rw [node_pre hpre2 meet_has, hoj2] at hsee
                have hnd : ndJ S G (S.blk i) j = node S G (wat (S.blk i).fs j) := by unfold ndJ; rw [if_neg HT202.out]
                have hnt := nodesOf_take S G (S.blk i) hlt2
                rw [hnd] at hnt
                generalize node S G (wat (S.blk i).fs j) = nd at hsee hnt
                unfold ndV at hsee
                have HSEE := Lib.hid hsee
                have HN6 := Lib.hid (And.intro hn6 hl6)
                have HNT := Lib.hid hnt
                clear ht1 kM2 cm2 kA2 hsee hn6 hl6 hoj2 hpre2 hnd hnt
                go_wp2_with fail
                refine HSEE.out.mono ?_
                rintro e w7 ⟨rfl, mv3, hgs7, hc7, hloc7⟩
                have hn7 := HN6.out.1.see hgs7 hc7
                have hl7 : w7.ownsRow T4 88 3 (.slice la j lc) j (ndCs ((nodesOf S G (S.blk i)).take j)) := row_keep HN6.out.2 HT4.out hc7 (gs_apart HN6.out.1.gs (by decide) (by decide))
                have HO7 := Lib.hid (hl7.alloc (.cells #[.int .i64 nd.place, .int .i64 (nd.dist : Int), .int .u64 nd.w] 88))
                have HCT := Lib.hid (cells_three w7 (.int .i64 nd.place) (.int .i64 (nd.dist : Int)) (.int .u64 nd.w) 88)
                have HN7 := Lib.hid (And.intro hn7 hl7)
                have hTw7 : T4 ≤ w7.heap.size := Nat.le_trans hTw hc7.size
                clear hn7 hl7 hgs7 hc7 hloc7 HSEE
                go_wp2_with (at_builtin; refine wpList_append_own_at _ rfl _ _ 39 rfl T4 88 i1 (.agg #[.int .i64 0, .int .i64 0, .int .u64 0]) 3 24 Try.underlying39 hi1 hz10 hz11 hz12 rfl (by decide) _ _ _ rfl HO7.out ⟨w7.heap.size, 0, none⟩ 1 1 [.int .i64 nd.place, .int .i64 (nd.dist : Int), .int .u64 nd.w] rfl rfl HCT.out (by intro u hu; simp at hu; rcases hu with rfl | rfl | rfl <;> rfl) (by unfold maxLen; omega) (by omega) (by simp only [size_alloc]; omega) ?_; intro v' w8 hown8 hgrow8 hnil hloc; have HO8 := Lib.hid hown8; have HG8 := Lib.hid (show (w7.alloc (.cells #[.int .i64 nd.place, .int .i64 (nd.dist : Int), .int .u64 nd.w] 88)).grownBy w8 (Value.slice la j lc).ownBlock from hgrow8); obtain ⟨la', lc', hv'⟩ := ownsRow_slice hown8; clear hown8 hgrow8 hnil hloc; subst hv')
                go_roundg ((S.blk i).fs.length - (j + 1))
                case measure => omega
                case rel =>
                  refine ⟨j + 1, la', lc', mv3, rfl, by omega, rfl, by go_num, ?_, ?_, ?_⟩
                  · exact HN7.out.1.young hbA' HT4.out HN7.out.2 ((Chg.refl [] w7).alloc _) HG8.out
                  · rw [HNT.out, ndCs_push]
                    exact HO8.out
                  · exact Nat.le_trans hTw7 (Nat.le_trans (by simp only [size_alloc]; omega) HG8.out.size)
            · have hjl : j = (S.blk i).fs.length := by omega
              have hdec2 : decide ((j : Int) < ((S.blk i).fs.length : Int)) = false := decide_eq_false (by omega)
              have HJL := Lib.hid hjl
              clear hjl
              go_upto_region 17 with fail
              refine region_quiet (by kernel_rfl) (by kernel_rfl) ?_
              repeat go_big_quiet_step ((go_at_call 25; exact Calls.quiet_of (hs1 _)))
              refine wpQuiet_nil ?_
              intro m1
              have hch6 := (Chg.refl [] wr).drewN m1
              have hn6 := HN.out.1.after hch6
              have hl6 := ownsRow_chg HN.out.2 hch6 (by simp)
              have hnl := nodesOf_len S G (S.blk i)
              rw [List.take_of_length_le (by rw [hnl, HJL.out]; exact Nat.le_refl _)] at hl6
              have hrow6 := hn6.fr.row
              rw [HROWS.out.2] at hrow6
              have HO6 := Lib.hid (hrow6.alloc (.cells #[.slice la j lc] 39))
              have HN6 := Lib.hid (And.intro hn6 hl6)
              have hszr := HN.out.1.gs.chg.size
              clear hs1 kM2 cm2 kA2 hn6 hl6 hrow6 hnl
              go_wp2_with (at_builtin; refine wpList_append_own_at _ rfl _ _ 41 rfl W.heap.size 39 k0 (.slice none 0 0) 1 24 Try.underlying41 hk0 hkz0 hkz1 hkz2 rfl (by decide) _ _ _ rfl HO6.out ⟨wr.heap.size, 0, none⟩ 1 1 [.slice la j lc] rfl rfl (cell_one_new _ _ _) (by intro u hu; simp at hu; subst hu; rfl) (by unfold maxLen; omega) (by omega) (by simp only [size_alloc]; simp; omega) ?_; intro v' w7 hown7 hgrow7 hnil hloc; have HO7 := Lib.hid hown7; have HG7 := Lib.hid (show ((wr.drewN m1).alloc (.cells #[.slice la j lc] 39)).grownBy w7 (Value.slice qa k qc).ownBlock from hgrow7); obtain ⟨qa', qc', hv'⟩ := ownsRow_slice hown7; clear hown7 hgrow7 hnil hloc; subst hv')
              go_roundg (S.L.length - (k + 1))
              case measure => omega
              case rel =>
                have hoj3 : oj = outs S roots (k + 1) := by
                  rw [← HOJ.out, HJL.out, outJ_all]
                  show _ = (match (outs S roots k)[k]? with | none => outs S roots k | some i => (S.blk i).words.foldl (meet S) (outs S roots k))
                  rw [HI.out.1]
                have hpl3 := (prefix_outs_succ S roots k).length_le
                refine ⟨k + 1, .slice (some ⟨g2, 0, none⟩) oj.length c2, ta', tc', qa', qc', rows ++ [(nodesOf S G (S.blk i), .slice la j lc)], w7.heap.size, rfl, by omega, by go_num, rfl, rfl, ?_, ?_⟩
                · rw [List.map_append, HROWS.out.1, List.take_add_one, HI.out.2, List.map_append]; rfl
                · rw [← hoj3]
                  have hrl6 := HN6.out.2
                  have e : j = (nodesOf S G (S.blk i)).length := by rw [nodesOf_len]; exact HJL.out
                  have hrl7 : (wr.drewN m1).ownsRow T4 88 3 (.slice la j lc) (nodesOf S G (S.blk i)).length (ndCs (nodesOf S G (S.blk i))) := by
                    rw [← e]; exact hrl6
                  refine HN6.out.1.row hbA' HT4.out hrl7 ((Chg.refl [] (wr.drewN m1)).alloc _) HG7.out ?_
                  rw [HROWS.out.2]
                  exact HO7.out
        · have hk2 : (outs S roots k).length = k := by omega
          have hreach := reach_of_stop S roots hk2
          have hdec : decide ((k : Int) < ((outs S roots k).length : Int)) = false := decide_eq_false (by omega)
          have hGe : G = outs S roots k := by rw [HG.out, hreach]
          have HM := Lib.hid hm
          have HE := Lib.hid (And.intro hrows (And.intro hGe hk2))
          clear hm hrows hreach hGe hk2
          go_wp2
          go_ret3
          have hGl : G.length = k := by rw [HE.out.2.1]; exact HE.out.2.2
          have ht : G.take k = G := List.take_of_length_le (by omega)
          refine ⟨_, _, _, rows, rfl, HM.out.gs.chg, HM.out.fst, ?_, HM.out.fr.top, ?_⟩
          · have h := HM.out.tags
            rw [ht] at h
            rw [hGl]; exact h
          · have h := HE.out.1
            rw [ht] at h
            exact h
end

end Go.Proofs.Ytkjggomkkfknhaa
