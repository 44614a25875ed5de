import Derived.Test.YtleoedjjepkhgaaInter
import Derived.Test.YtleoedjjepkhgaaFoot
import Derived.Test.YtleoedjjepkhgaaPlainN
import Derived.Test.YtleoedjjepkhgaaEnv
/- The reference's copier: what has moved. -/
namespace Go.Proofs.Ytleoedjjepkhgaa
open Go.RowKit

/-- T holds, in the order of g, blocks of the tags and sizes of S's -/
structure Like (S T : St) (g : List Nat) : Prop where
  n : T.n = S.n
  up : T.up = 1 - S.up
  len : T.L.length = g.length
  tag : ∀ k i, g[k]? = some i → (T.blk k).tag = (S.blk i).tag
  size : ∀ k i, g[k]? = some i → (T.blk k).fs.length = (S.blk i).fs.length

theorem Like.base {S T : St} {g : List Nat} (H : Like S T g) : T.base = S.n * (1 - S.up) := by unfold St.base; rw [H.n, H.up]

theorem Like.span {S T : St} {g : List Nat} (H : Like S T g) (k : Nat) : span (T.L.take k) = span ((g.take k).map S.blk) := by
  apply span_same
  apply List.ext_getElem (by simp [H.len])
  intro j h1 h2
  have hj : j < g.length := by simp at h2; omega
  have hjT : j < T.L.length := by rw [H.len]; exact hj
  have h3 := H.size j g[j] (List.getElem?_eq_getElem hj)
  have e : T.blk j = T.L[j] := by unfold St.blk; rw [List.getD_eq_getElem?_getD, List.getElem?_eq_getElem hjT]; rfl
  simp only [List.getElem_map, List.getElem_take]
  rw [← e, h3]

theorem Like.pos {S T : St} {g : List Nat} (H : Like S T g) (k : Nat) : T.pos k = npos S g k := by
  unfold St.pos npos
  rw [H.base, H.span]

theorem Like.top {S T : St} {g : List Nat} (H : Like S T g) (i : Nat) : T.top + 1 = npos S (g ++ [i]) g.length := by
  have h := H.span g.length
  rw [List.take_length, List.take_of_length_le (by rw [H.len]; exact Nat.le_refl _)] at h
  unfold St.top npos
  rw [H.base, h, List.take_append_of_le_length (Nat.le_refl _), List.take_length]

def St.push (T : St) (b : Blk) : St := { T with L := T.L ++ [b] }

theorem push_blk (T : St) (b : Blk) (k : Nat) : (T.push b).blk k = if k = T.L.length then b else T.blk k := by
  unfold St.push St.blk
  simp only [List.getD_eq_getElem?_getD]
  by_cases h : k < T.L.length
  · rw [List.getElem?_append_left h, if_neg (by omega)]
  · rw [List.getElem?_append_right (by omega)]
    by_cases e : k = T.L.length
    · rw [if_pos e, e]; simp
    · rw [if_neg e, List.getElem?_eq_none (by simp; omega), List.getElem?_eq_none (by omega)]

theorem Like.push {S T : St} {g : List Nat} (H : Like S T g) (i : Nat) : Like S (T.push (S.blk i)) (g ++ [i]) := by
  refine ⟨H.n, H.up, by simp [St.push, H.len], ?_, ?_⟩
  · intro k j hk
    rw [push_blk]
    by_cases e : k = T.L.length
    · rw [if_pos e]
      rw [e, H.len, List.getElem?_append_right (Nat.le_refl _)] at hk
      simp at hk
      rw [hk]
    · rw [if_neg e]
      have hl := (List.getElem?_eq_some_iff.1 hk).1
      rw [List.length_append, List.length_singleton] at hl
      rw [List.getElem?_append_left (by rw [H.len] at e; omega)] at hk
      exact H.tag k j hk
  · intro k j hk
    rw [push_blk]
    by_cases e : k = T.L.length
    · rw [if_pos e]
      rw [e, H.len, List.getElem?_append_right (Nat.le_refl _)] at hk
      simp at hk
      rw [hk]
    · rw [if_neg e]
      have hl := (List.getElem?_eq_some_iff.1 hk).1
      rw [List.length_append, List.length_singleton] at hl
      rw [List.getElem?_append_left (by rw [H.len] at e; omega)] at hk
      exact H.size k j hk

theorem Like.ok {S T : St} {g : List Nat} (H : Like S T g) (hS : S.ok) (hg : Good S g) : T.ok := by
  refine ⟨by rw [H.n]; exact hS.n2, by rw [H.n]; exact hS.n3, by rw [H.up]; omega, ?_⟩
  have h := H.span g.length
  rw [List.take_length, List.take_of_length_le (by rw [H.len]; exact Nat.le_refl _)] at h
  rw [h, H.n]
  exact Nat.le_trans (good_span hg) hS.fit

/-- what the new half is once a word has been met -/
def St.grown (T S : St) (g : List Nat) (x : Int) : St := match S.find x with
  | some p => if p.1 ∈ g then T else T.push (S.blk p.1)
  | none => T

structure MV (W w : World) (m q nq : Nat) (S T : St) (g : List Nat) (gv lv : Value) (fv : Nat → Value) : Prop where
  chg : Chg [] W w
  k : w.heap[m]? = some (.cells #[.pointer (some ⟨q, 0, none⟩), .pointer (some ⟨nq, 0, none⟩), gv] 113 (0, 0))
  now : RM w nq lv fv T
  gone : w.ownsRow W.heap.size 3 1 gv g.length (nats g)
  good : Good S g
  like : Like S T g
  fm : W.heap.size ≤ m
  fnow : ∀ k ∈ rfoot nq lv fv T.L.length, W.heap.size ≤ k

def mfoot (m nq : Nat) (lv gv : Value) : List Nat := m :: nq :: (lv.ownBlock.toList ++ gv.ownBlock.toList)

section
variable {W w : World} {m q nq : Nat} {S T : St} {g : List Nat} {gv lv olv : Value} {fv ofv : Nat → Value}

theorem RM.after {w w' : World} {q : Nat} {lv : Value} {fv : Nat → Value} {S : St} (H : RM w q lv fv S) (hc : Chg [] w w') : RM w' q lv fv S := H.chg hc (by simp)

theorem RM.keepF {F : List Nat} {w w' : World} {q : Nat} {lv : Value} {fv : Nat → Value} {S : St} (H : RM w q lv fv S) (hc : Chg F w w') (hF : ∀ k ∈ F, ∃ cs t fz, w.heap[k]? = some (.cells cs t fz) ∧ t ∉ [70, 73, 49]) : RM w' q lv fv S := by
  refine H.chg hc fun k hk hm => ?_
  obtain ⟨cs, t, fz, h1, h2⟩ := hF k hm
  simp only [List.mem_cons, List.not_mem_nil, or_false, not_or] at h2
  unfold rfoot at hk
  simp only [List.mem_cons, List.mem_append, List.mem_flatMap, List.mem_range] at hk
  rcases hk with rfl | hk | ⟨j, hj, hk⟩
  · rw [H.a] at h1; cases h1; exact h2.1 rfl
  · rw [Option.mem_toList] at hk
    exact own_ne' H.row h1 (fun e => h2.2.1 e.symm) hk
  · rw [Option.mem_toList] at hk
    exact own_ne' (H.fvs j hj) h1 (fun e => h2.2.2 e.symm) hk

theorem own_type {w : World} {base : Nat} {e : TypeId} {size : Nat} {v : Value} {n : Nat} {xs : List Value} (H : w.ownsRow base e size v n xs) : ∀ k ∈ v.ownBlock.toList, ∃ cs fz, w.heap[k]? = some (.cells cs e fz) := by
  intro k hk
  rw [Option.mem_toList] at hk
  rcases H.2 with ⟨rfl, _⟩ | ⟨g, cap, cur, rfl, h1, h2, _⟩
  · simp [Value.ownBlock] at hk
  · have e1 : g = k := by simpa [Value.ownBlock] using hk
    subst e1
    exact ⟨_, _, h2⟩

theorem MV.after {w' : World} (H : MV W w m q nq S T g gv lv fv) (hc : Chg [] w w') : MV W w' m q nq S T g gv lv fv :=
  ⟨H.chg.trans hc, hc.get H.k (by simp), H.now.after hc, ownsRow_chg H.gone hc (by simp), H.good, H.like, H.fm, H.fnow⟩

theorem MV.apart (H : MV W w m q nq S T g gv lv fv) {ts : List TypeId} (h1 : 113 ∉ ts) (h2 : 70 ∉ ts) (h3 : 73 ∉ ts) (h4 : 3 ∉ ts) : ∀ k ∈ mfoot m nq lv gv, Apart W w ts k := by
  intro k hk
  unfold mfoot at hk
  simp only [List.mem_cons, List.mem_append] at hk
  rcases hk with rfl | rfl | hk | hk
  · exact .inr (.inr ⟨_, _, _, H.k, h1⟩)
  · exact .inr (.inr ⟨_, _, _, H.now.a, h2⟩)
  · exact own_apart H.now.row h3 k hk
  · exact own_apart H.gone h4 k hk

theorem mv_in {x : Int} {p : Nat × Nat} (hx : S.find x = some p) (g : List Nat) : mv S g x = ptr (npos S g (g.idxOf p.1) + p.2) := by
  unfold mv; rw [hx]

theorem push_pos (T : St) (b : Blk) {k : Nat} (hk : k ≤ T.L.length) : (T.push b).pos k = T.pos k := by
  unfold St.pos St.push St.base
  simp only
  rw [List.take_append_of_le_length hk]

theorem push_len (T : St) (b : Blk) : (T.push b).L.length = T.L.length + 1 := by simp [St.push]

theorem pos_top (T : St) : T.pos T.L.length = T.top + 1 := by unfold St.pos St.top; rw [List.take_length]

theorem push_done {w wq w5 : World} {q : Nat} {T : St} {lv vb v' : Value} {fv : Nat → Value} {b : Blk} (H : RM w q lv fv T) (hok : (T.push b).ok) (hb : b.ok) (hc : Chg [] w wq) (hrow : wq.ownsRow w.heap.size 49 1 vb b.fs.length (words b.fs))
    (hg : wq.grownBy w5 lv.ownBlock) (hown : w5.ownsRow 0 73 3 v' (T.L.length + 1) (rrow T fv T.L.length ++ [.int .i64 ((T.top + 1 : Nat) : Int), .int .i64 (b.tag : Int), vb]))
    (hloc : v'.ownBlock = lv.ownBlock ∨ v'.ownBlock = some wq.heap.size) :
    (w5.cell? ⟨q, 2, none⟩ = some lv ∧ w5.frozen? ⟨q, 2, none⟩ = false) ∧ RM (w5.setCell ⟨q, 2, none⟩ v') q v' (upd fv T.L.length vb) (T.push b) ∧
    Chg (q :: lv.ownBlock.toList) w (w5.setCell ⟨q, 2, none⟩ v') ∧ (v'.ownBlock = lv.ownBlock ∨ ∃ k, v'.ownBlock = some k ∧ w.heap.size ≤ k) ∧ (∀ k, vb.ownBlock = some k → w.heap.size ≤ k) := by
  have hq : wq.heap[q]? = _ := hc.get H.a (by simp)
  have n1 := own_ne H.row H.a (by decide)
  have hlv : wq.ownsRow 0 73 3 lv T.L.length (rrow T fv T.L.length) := ownsRow_chg H.row hc (by simp)
  have past : ∀ k o, wq.heap[k]? = some o → lv.ownBlock ≠ some k → w5.heap[k]? = some o := by
    intro k o hk hne
    rw [hg.block k (lt_of_heap hk) (fun e => hne e.symm)]
    exact hk
  have q1 := past q _ hq n1
  have hvq : v'.ownBlock ≠ some q := own_ne hown q1 (by decide)
  have keep : ∀ v base n xs, wq.ownsRow base 49 1 v n xs → (w5.setCell ⟨q, 2, none⟩ v').ownsRow base 49 1 v n xs := by
    intro v base n xs hv
    have hk : w5.ownsRow base 49 1 v n xs := by
      refine hv.kept hg ?_
      cases hv.2 with
      | inl h => left; rw [h.1]; rfl
      | inr h =>
        right
        obtain ⟨g, cap, cur, rfl, _, hg2, _⟩ := h
        intro e
        exact own_ne hlv hg2 (by decide) e.symm
    exact ownsRow_set hk (own_ne hk q1 (by decide)) _
  refine ⟨⟨cell_at q1 rfl, free_at q1 2⟩, ⟨?_, ?_, ?_, ?_, hok, ?_⟩, ?_, ?_, ?_⟩
  · exact heap_set q1 v'
  · rw [push_len, rrow_succ]
    refine ownsRow_set ?_ hvq _
    have e1 : rrow (T.push b) (upd fv T.L.length vb) T.L.length = rrow T fv T.L.length :=
      rrow_congr fun k hk => by unfold rcells upd; rw [push_pos T b (by omega), push_blk, if_neg (by omega), if_neg (by omega)]
    have e2 : rcells (T.push b) (upd fv T.L.length vb) T.L.length = [.int .i64 ((T.top + 1 : Nat) : Int), .int .i64 (b.tag : Int), vb] := by
      unfold rcells upd; rw [push_pos T b (Nat.le_refl _), push_blk, if_pos rfl, if_pos rfl, pos_top]
    rw [e1, e2]
    exact hown
  · intro k hk
    rw [push_len] at hk
    unfold upd
    by_cases e : k = T.L.length
    · subst e
      rw [if_pos rfl, push_blk, if_pos rfl]
      exact own_low (keep _ _ _ _ hrow) (Nat.zero_le _)
    · rw [if_neg e, push_blk, if_neg e]
      exact keep _ _ _ _ (ownsRow_chg (H.fvs k (by omega)) hc (by simp))
  · intro i j b' hi hj h1 h2
    rw [push_len] at hi hj
    unfold upd at h1 h2
    by_cases e1 : i = T.L.length
    · by_cases e2 : j = T.L.length
      · omega
      · rw [if_pos e1] at h1
        rw [if_neg e2] at h2
        have := (hrow.lt b' h1).1
        have := ((H.fvs j (by omega)).lt b' h2).2
        omega
    · by_cases e2 : j = T.L.length
      · rw [if_neg e1] at h1
        rw [if_pos e2] at h2
        have := (hrow.lt b' h2).1
        have := ((H.fvs i (by omega)).lt b' h1).2
        omega
      · rw [if_neg e1] at h1
        rw [if_neg e2] at h2
        exact H.dist i j b' (by omega) (by omega) h1 h2
  · intro b' hb'
    rcases List.mem_append.1 (show b' ∈ T.L ++ [b] from hb') with h | h
    · exact H.blks b' h
    · rw [List.mem_singleton.1 h]; exact hb
  · have k1 : Chg (q :: lv.ownBlock.toList) w wq := hc.mono (by simp)
    exact Chg.set (k1.grown hg (fun k hk => .inl (by rw [hk]; simp))) _ (.inl (by simp))
  · rcases hloc with e | e
    · exact .inl e
    · exact .inr ⟨_, e, hc.size⟩
  · intro k hk; exact (hrow.lt k hk).1

set_option maxHeartbeats 4000000 in
set_option maxRecDepth 100000 in
theorem mword_am (HO : RM W q olv ofv S) (H : MV W w m q nq S T g gv lv fv) (x : Int) (hxw : Wd x) :
    Calls Try.prog 77 #[.pointer (some ⟨m, 0, none⟩), .int .u64 x] w fun e w' => e = .returned (.int .u64 (mv S (meet S g x) x)) ∧
      ∃ gv' lv' fv', MV W w' m q nq S (T.grown S g x) (meet S g x) gv' lv' fv' ∧ Chg (mfoot m nq lv gv) w w' ∧
        ∀ k ∈ rfoot nq lv' fv' (T.grown S g x).L.length, k ∈ rfoot nq lv fv T.L.length ∨ w.heap.size ≤ k := by
  have hold := HO.after H.chg
  have HFI := Lib.hid (rfind_am hold x hxw.1 hxw.2)
  have HO' := Lib.hid hold
  have HH := Lib.hid H
  have km0 := cell_at H.k (o := 0) rfl
  have hgl := H.good.length_le
  have hcnt := HO.count
  unfold St.rfnd at HFI
  cases hx : S.find x with
  | none =>
    have e1 : mv S (meet S g x) x = x := mv_none hx
    have e2 : meet S g x = g := by unfold meet; rw [hx]
    have e3 : T.grown S g x = T := by unfold St.grown; rw [hx]
    rw [e1, e2, e3]
    rw [hx] at HFI
    clear H hold hx e1 e2 e3
    go_enter Try.func77, Try.ntmps77
    go_wp2_with (go_at_call 60; refine HFI.out.mono ?_; rintro e w' ⟨rfl, ⟨n, rfl⟩⟩)
    go_ret
    have hc := (Chg.refl [] w).drewN n
    exact ⟨rfl, gv, lv, fv, HH.out.after hc, hc.mono (by simp), fun k hk => .inl hk⟩
  | some p =>
    rw [hx] at HFI
    dsimp only at HFI
    obtain ⟨ga, gc, rfl⟩ := ownsRow_slice H.gone
    have hlt := find_lt hx
    have km1 := cell_at H.k (o := 1) (v := .pointer (some ⟨nq, 0, none⟩)) rfl
    have km2 := cell_at H.k (o := 2) (v := .slice ga g.length gc) rfl
    have kn2 := H.now.fields.2.2
    have hgone : ∀ (k i : Nat), g[k]? = some i → ∃ gg, ga = some ⟨gg, 0, none⟩ ∧ w.cell? ⟨gg, k, none⟩ = some (.int .i64 (i : Int)) := by
      intro k i hi
      have hr := H.gone
      have hl := (List.getElem?_eq_some_iff.1 hi).1
      obtain ⟨gg, cap', hv, _, _, _, hc, _⟩ := ownsRow_shape hr (by omega)
      simp only [Value.slice.injEq] at hv
      exact ⟨gg, hv.1, hc k _ (by unfold nats; simp [hi])⟩
    have HGN := Lib.hid hgone
    have hpl : ∀ k, k < T.L.length → T.pos k + (T.blk k).fs.length ≤ 65536 := fun k hk => pos_le H.now.ok hk
    have HPL := Lib.hid hpl
    have hd : p.2 ≤ (S.blk p.1).fs.length := by
      obtain ⟨_, b, hb, _, hd⟩ := (find_iff S x p.1 p.2).1 hx
      have hbb : S.blk p.1 = b := by unfold St.blk; rw [List.getD_eq_getElem?_getD, hb]; rfl
      rw [hbb]; exact dist_le hd
    clear hgone hpl
    by_cases hin : p.1 ∈ g
    · have e2 : meet S g x = g := by unfold meet; rw [hx]; dsimp only; rw [if_pos hin]
      have e3 : T.grown S g x = T := by unfold St.grown; rw [hx]; dsimp only; rw [if_pos hin]
      rw [e2, e3, mv_in hx]
      obtain ⟨hil, hig⟩ := idx_get hin
      rw [← H.like.pos]
      have hpos := HPL.out (g.idxOf p.1) (by rw [H.like.len]; exact hil)
      have hsz := H.like.size (g.idxOf p.1) p.1 (by rw [List.getElem?_eq_getElem hil, hig])
      obtain ⟨lg, lcap, hlv, hlc, hrow⟩ : ∃ lg lcap, lv = .slice (some ⟨lg, 0, none⟩) T.L.length lcap ∧ T.L.length ≤ lcap ∧ ∀ k, k < T.L.length → w.cell? ⟨lg, k * 3, none⟩ = some (.int .i64 ((T.pos k : Nat) : Int)) := by
        rcases H.now.rows with ⟨_, h0⟩ | ⟨lg, lcap, e, hc, hr⟩
        · rw [H.like.len] at h0; omega
        · exact ⟨lg, lcap, e, hc, fun k hk => (hr k hk).1⟩
      rw [hlv] at kn2
      have kpos := hrow (g.idxOf p.1) (by rw [H.like.len]; exact hil)
      have hlen := H.like.len
      have HIG := Lib.hid hig
      have HLEN := Lib.hid hlen
      generalize hT : T.L.length = tl at kn2 hlen
      have HT := Lib.hid hT
      generalize T.pos (g.idxOf p.1) = po at kpos hpos ⊢
      have hptr : ptr (po + p.2) = 2 * ((po : Int) + (p.2 : Int)) := by unfold ptr; push_cast; rfl
      rw [hptr]
      have hbd : po + p.2 ≤ 65536 := by omega
      have HP := Lib.hid (fun w => rPtr_any ((po : Int) + (p.2 : Int)) (by omega) (by omega) w)
      clear H hold hx e2 e3 hrow hsz hig hT hptr
      go_enter Try.func77, Try.ntmps77
      go_wp2_with (go_at_call 60; refine HFI.out.mono ?_; rintro e w' ⟨rfl, ⟨n, rfl⟩⟩)
      go_loopg [7] g.length (fun gh v wr => ∃ k : Nat, gh = g.length - k ∧ k ≤ g.idxOf p.1 ∧ v = .int .i64 ((k : Nat) : Int) ∧ wr = w.drewN n)
      case atStart => exact ⟨0, rfl, Nat.zero_le _, rfl, rfl⟩
      case round =>
        obtain ⟨k, hgk, hk, rfl, rfl⟩ := hrel
        have hdec : decide ((k : Int) < (g.length : Int)) = true := decide_eq_true (by omega)
        obtain ⟨i, hi⟩ : ∃ i, g[k]? = some i := ⟨_, List.getElem?_eq_getElem (by omega)⟩
        obtain ⟨gg, rfl, cg⟩ := HGN.out k i hi
        by_cases hki : k < g.idxOf p.1
        · have hne : ((i : Int) == (p.1 : Int)) = false := by
            refine beq_eq_false_iff_ne.2 fun e => ?_
            have e1 : i = p.1 := by omega
            subst e1
            obtain ⟨hk1, hk2⟩ := List.getElem?_eq_some_iff.1 hi
            have := (List.getElem_inj (h₀ := hk1) (h₁ := hil) HH.out.good.nodup).1 (hk2.trans HIG.out.symm)
            omega
          clear hi
          go_wp2_with fail
          go_roundg (g.length - (k + 1))
          case measure => omega
          case rel => exact ⟨k + 1, rfl, by omega, by go_num, rfl⟩
        · obtain rfl : k = g.idxOf p.1 := by omega
          have hiq : i = p.1 := by
            obtain ⟨hk1, hk2⟩ := List.getElem?_eq_some_iff.1 hi
            exact hk2.symm.trans HIG.out
          subst hiq
          have hne : ((p.1 : Int) == (p.1 : Int)) = true := beq_self_eq_true _
          clear hi
          go_wp2_with (go_at_call 24; refine (HP.out _).mono ?_; rintro e w' ⟨rfl, hw'⟩; obtain rfl := hw'.symm)
          go_ret
          have hc := (Chg.refl [] w).drewN n
          exact ⟨rfl, _, lv, fv, HH.out.after hc, hc.mono (by simp), fun k hk => .inl hk⟩
    · have e2 : meet S g x = g ++ [p.1] := by unfold meet; rw [hx]; dsimp only; rw [if_neg hin]
      have e3 : T.grown S g x = T.push (S.blk p.1) := by unfold St.grown; rw [hx]; dsimp only; rw [if_neg hin]
      rw [e2, e3, mv_in hx]
      have hix : (g ++ [p.1]).idxOf p.1 = g.length := by rw [List.idxOf_append, if_neg hin]; simp
      rw [hix, ← H.like.top]
      have hgd : Good S (g ++ [p.1]) := by
        have := good_meet H.good x
        rw [e2] at this
        exact this
      have HGD := Lib.hid hgd
      have HIN := Lib.hid hin
      have hlen := H.like.len
      have hgln := H.good.length_le
      have HLEN := Lib.hid hlen
      clear H hold hx e2 e3 hix hgd hin hlen km1 km2 kn2 HGN
      go_enter Try.func77, Try.ntmps77
      go_wp2_with fail
      refine HFI.out.mono ?_
      rintro e w' ⟨rfl, n, rfl⟩
      have hm1 := HH.out.after ((Chg.refl [] w).drewN n)
      have ho1 := HO'.out.after ((Chg.refl [] w).drewN n)
      have hc1 := (Chg.refl [] w).drewN n
      clear km0 HFI
      generalize w.drewN n = w1 at hm1 ho1 hc1 ⊢
      have km0 := cell_at hm1.k (o := 0) (v := .pointer (some ⟨q, 0, none⟩)) rfl
      have km1 := cell_at hm1.k (o := 1) (v := .pointer (some ⟨nq, 0, none⟩)) rfl
      have km2 := cell_at hm1.k (o := 2) (v := .slice ga g.length gc) rfl
      have kn2 := hm1.now.fields.2.2
      have hgone : ∀ (k i : Nat), g[k]? = some i → ∃ gg, ga = some ⟨gg, 0, none⟩ ∧ w1.cell? ⟨gg, k, none⟩ = some (.int .i64 (i : Int)) := by
        intro k i hi
        have hl := (List.getElem?_eq_some_iff.1 hi).1
        obtain ⟨gg, cap', hv, _, _, _, hc, _⟩ := ownsRow_shape hm1.gone (by omega)
        simp only [Value.slice.injEq] at hv
        exact ⟨gg, hv.1, hc k _ (by unfold nats; simp [hi])⟩
      have HGN := Lib.hid hgone
      obtain ⟨og, ocap, holv, hrow⟩ : ∃ og ocap, olv = .slice (some ⟨og, 0, none⟩) S.L.length ocap ∧ ∀ k, k < S.L.length → w1.cell? ⟨og, k * 3, none⟩ = some (.int .i64 ((S.pos k : Nat) : Int)) ∧ w1.cell? ⟨og, k * 3 + 1, none⟩ = some (.int .i64 (((S.blk k).tag : Nat) : Int)) ∧ w1.cell? ⟨og, k * 3 + 2, none⟩ = some (ofv k) := by
        rcases ho1.rows with ⟨_, h0⟩ | ⟨og, ocap, e, hc, hr⟩
        · omega
        · exact ⟨og, ocap, e, hr⟩
      have ko2 := ho1.fields.2.2
      rw [holv] at ko2
      obtain ⟨c0, c1, c2⟩ := hrow p.1 hlt
      obtain ⟨fa, fc, hfv⟩ := ownsRow_slice (ho1.fvs p.1 hlt)
      rw [hfv] at c2
      have HFV := Lib.hid hfv
      have HM1 := Lib.hid hm1
      have HO1 := Lib.hid ho1
      have HC1 := Lib.hid hc1
      clear hgone hrow holv hfv hm1 ho1 hc1
      go_wp2_with fail
      go_loopg [7] g.length (fun gh v wr => ∃ k : Nat, gh = g.length - k ∧ k ≤ g.length ∧ v = .int .i64 ((k : Nat) : Int) ∧ w1 = wr)
      case atStart => exact ⟨0, rfl, Nat.zero_le _, rfl, rfl⟩
      case round =>
        obtain ⟨k, hgk, hk, rfl, rfl⟩ := hrel
        by_cases hki : k < g.length
        · have hdec : decide ((k : Int) < (g.length : Int)) = true := decide_eq_true (by omega)
          obtain ⟨i, hi⟩ : ∃ i, g[k]? = some i := ⟨_, List.getElem?_eq_getElem (by omega)⟩
          obtain ⟨gg, rfl, cg⟩ := HGN.out k i hi
          have hne : ((i : Int) == (p.1 : Int)) = false := by
            refine beq_eq_false_iff_ne.2 fun e => ?_
            have e1 : i = p.1 := by omega
            subst e1
            exact HIN.out (List.mem_of_getElem? hi)
          clear hi
          go_wp2_with fail
          go_roundg (g.length - (k + 1))
          case measure => omega
          case rel => exact ⟨k + 1, rfl, by omega, by go_num, rfl⟩
        · obtain rfl : k = g.length := by omega
          have hdec : decide ((g.length : Int) < (g.length : Int)) = false := decide_eq_false (by omega)
          go_wp2_with fail
          have hm2 := HM1.out.after ((Chg.refl [] w1).alloc (.cells #[.int .i64 ((S.pos p.1 : Nat) : Int), .int .i64 (((S.blk p.1).tag : Nat) : Int), .slice fa (S.blk p.1).fs.length fc] 73))
          have ho2 := HO1.out.after ((Chg.refl [] w1).alloc (.cells #[.int .i64 ((S.pos p.1 : Nat) : Int), .int .i64 (((S.blk p.1).tag : Nat) : Int), .slice fa (S.blk p.1).fs.length fc] 73))
          have hbb := heap_alloc_new w1 (.cells #[.int .i64 ((S.pos p.1 : Nat) : Int), .int .i64 (((S.blk p.1).tag : Nat) : Int), .slice fa (S.blk p.1).fs.length fc] 73)
          have hc2 := HC1.out.alloc (.cells #[.int .i64 ((S.pos p.1 : Nat) : Int), .int .i64 (((S.blk p.1).tag : Nat) : Int), .slice fa (S.blk p.1).fs.length fc] 73)
          obtain ⟨bb, hbbe⟩ : ∃ bb, bb = w1.heap.size := ⟨_, rfl⟩
          have hbbw : w.heap.size ≤ bb := by rw [hbbe]; exact HC1.out.size
          have hbl : ∀ k, lv.ownBlock = some k → k ≠ bb := by
            intro k hk
            have := (HM1.out.now.row.lt k hk).2
            omega
          rw [← hbbe] at hbb ⊢
          clear km0 km1 km2 kn2 ko2 c0 c1 c2 hbbe
          generalize w1.alloc (.cells #[.int .i64 ((S.pos p.1 : Nat) : Int), .int .i64 (((S.blk p.1).tag : Nat) : Int), .slice fa (S.blk p.1).fs.length fc] 73) = w2 at hm2 ho2 hbb hc2 ⊢
          have HM2 := Lib.hid hm2
          have HO2 := Lib.hid ho2
          have HC2 := Lib.hid hc2
          have HBB := Lib.hid hbb
          have HBL := Lib.hid hbl
          have ht31 : T.top ≤ 65536 := by
            have h1 := HM2.out.now.ok.fit
            have h2 := HM2.out.now.ok.n3
            have h3 := base_le HM2.out.now.ok
            unfold St.top
            omega
          clear hm2 ho2 hbb hc2 hbl
          refine region_two_ex [0, 1, 2, 3, 4, 5, 6, 7, 8, 9, 10, 11, 12, 13, 14, 15, 16, 17, 18, 20, 21] [19, 22, 23, 24, 25, 26, 27, 28] 15 2 123 (.int .i64 ((T.top : Nat) : Int))
            (fun x => (x.cell? ⟨m, 1, none⟩ = some (.pointer (some ⟨nq, 0, none⟩)) ∧ x.cell? ⟨nq, 2, none⟩ = some lv ∧ x.cell? ⟨bb, 1, none⟩ = some (.int .i64 (((S.blk p.1).tag : Nat) : Int)) ∧ x.cell? ⟨bb, 2, none⟩ = some (.slice fa (S.blk p.1).fs.length fc)) ∧ RM x nq lv fv T)
            (fun x => x.cell? ⟨m, 1, none⟩ = some (.pointer (some ⟨nq, 0, none⟩)) ∧ x.cell? ⟨nq, 2, none⟩ = some lv ∧ x.cell? ⟨bb, 1, none⟩ = some (.int .i64 (((S.blk p.1).tag : Nat) : Int)) ∧ x.cell? ⟨bb, 2, none⟩ = some (.slice fa (S.blk p.1).fs.length fc))
            (by kernel_rfl) (by kernel_rfl) (by kernel_rfl) (by kernel_rfl) (by kernel_rfl) (fun x n h => ⟨h.1, h.2.drewN n⟩) (fun x n h => h) (fun x h => h.1) (by intro _ _ d _ _ h; cases d <;> exact h)
            ⟨w2, ⟨cell_at HM2.out.k rfl, HM2.out.now.fields.2.2, cell_at HBB.out rfl, cell_at HBB.out rfl⟩, HM2.out.now⟩ ?_
          apply Exists.intro
          refine ⟨?_, ?_, ?_⟩
          · rintro x ⟨⟨a1, a2, a3, a4⟩, hr⟩
            have hT := fun N => rtop_am (hr.drewN N)
            simp only [List.filterMap_cons, List.filterMap_nil, List.getElem?_cons_zero, List.getElem?_cons_succ]
            refine show wpQuiet _ _ _ _ [_, _, _, _, _, _, _, _, _, _, _, _, _, _, _, _, _, _, _, _, _] _ from ?_
            repeat go_big_quiet_step ((go_at_call 22; exact Calls.quiet_of (hT _)))
            refine wpQuiet_nil ?_
            rfl
          · rintro x ⟨a1, a2, a3, a4⟩
            simp only [List.contains_cons, List.contains_nil, Bool.or_false, List.filter_cons, List.filter_nil, Nat.reduceBEq, Bool.not_false, Bool.not_true, if_true, if_false, Bool.false_eq_true, List.filterMap_cons, List.filterMap_nil, List.getElem?_cons_zero, List.getElem?_cons_succ, Option.bind_some, Act.put, List.setIfInBounds_toArray, List.set_cons_succ, List.set_cons_zero]
            refine show wpQuiet _ _ _ _ [_, _, _, _, _, _, _, _, _, _, _, _, _, _, _, _, _, _, _, _] _ from ?_
            repeat go_big_quiet_step (fail)
            refine wpQuiet_nil ?_
            rfl
          · have HCB := Lib.hid (fun (x : World) (hc : Chg [] w2 x) => (⟨cell_at (HM2.out.after hc).k rfl, (HM2.out.after hc).now.fields.2.2, cell_at (hc.get HBB.out (by simp)) rfl, cell_at (hc.get HBB.out (by simp)) rfl⟩ :
              x.cell? ⟨m, 1, none⟩ = some (.pointer (some ⟨nq, 0, none⟩)) ∧ x.cell? ⟨nq, 2, none⟩ = some lv ∧ x.cell? ⟨bb, 1, none⟩ = some (.int .i64 (((S.blk p.1).tag : Nat) : Int)) ∧ x.cell? ⟨bb, 2, none⟩ = some (.slice fa (S.blk p.1).fs.length fc)))
            have HRA := Lib.hid (fun (x : World) (hc : Chg [] w2 x) => (HM2.out.after hc).now)
            have hbo : (S.blk p.1).ok := HO.blks _ (List.mem_of_getElem? (blk_get hlt))
            have hfl := hbo.size
            obtain ⟨i0, hi, hz0, hz1, hz2⟩ := info_parts info_word
            obtain ⟨j0, hj, hy0, hy1, hy2⟩ := info_parts info_block
            have hszw2 := HC2.out.size
            -- 19
            refine wpC_listA rfl ⟨HCB.out _ ((Chg.refl [] w2).drewN 1), HRA.out _ ((Chg.refl [] w2).drewN 1)⟩ ?_
            intro m1
            simp only [List.getElem_toArray, List.getElem_cons_succ, List.getElem_cons_zero]
            have hq3 := ((Chg.refl [] w2).drewN 1).drewN m1
            have hz3 : ((w2.drewN 1).drewN m1).heap.size = w2.heap.size := rfl
            generalize (w2.drewN 1).drewN m1 = w3 at hq3 hz3 ⊢
            go_wp2_with fail
            dsimp only [thenC]
            have hq4 := hq3.alloc (.cells #[] 49)
            have hem : (w3.alloc (.cells #[] 49)).ownsRow w2.heap.size 49 1 (.slice (some ⟨w3.heap.size, 0, none⟩) 0 0) 0 [] :=
              ⟨rfl, .inr ⟨w3.heap.size, 0, #[], rfl, by omega, heap_alloc_new w3 _, Nat.le_refl _, by unfold maxLen; omega, rfl, rfl⟩⟩
            -- 22
            refine wpC_listA rfl ⟨HCB.out _ hq4, HRA.out _ hq4⟩ ?_
            intro m2
            simp only [List.getElem_toArray, List.getElem_cons_succ, List.getElem_cons_zero]
            have hq5 := hq4.drewN m2
            have hem5 := ownsRow_chg hem ((Chg.refl [] _).drewN m2) (by simp)
            have hsrc : ((w3.alloc (.cells #[] 49)).drewN m2).ownsRow 0 49 1 (.slice fa (S.blk p.1).fs.length fc) (S.blk p.1).fs.length (words (S.blk p.1).fs) := by
              have := (HO2.out.after hq5).fvs p.1 hlt
              rw [HFV.out] at this
              exact this
            have hz5 : ((w3.alloc (.cells #[] 49)).drewN m2).heap.size = w2.heap.size + 1 := by
              show (w3.alloc (.cells #[] 49)).heap.size = _
              rw [size_alloc, hz3]
            rw [hz3] at hem5
            have HEM := Lib.hid hem5
            have HSRC := Lib.hid hsrc
            have HQ5 := Lib.hid hq5
            clear hem hem5 hsrc hq3 hq4 hq5
            generalize (w3.alloc (.cells #[] 49)).drewN m2 = w5 at HEM HSRC HQ5 hz5 ⊢
            go_wp2_with (at_builtin; go_loud (refine wpList_append_row rfl (.tmp 82) (.tmp 84) 28 rfl w2.heap.size 49 i0 (.int .u64 0) 1 8 Try.underlying28 hi hz0 hz1 hz2 rfl (by decide) _ _ _ rfl HEM.out 0 _ _ (words (S.blk p.1).fs) rfl HSRC.out (ints_oneCell .u64 _) (by unfold maxLen; omega) (by omega) (by omega) ?_); intro v6 w6 hown6 hgrow6 hloc6; obtain ⟨va, vc, hv6⟩ := ownsRow_slice hown6; subst hv6; have HO6 := Lib.hid hown6; have HG6 := Lib.hid (show w5.grownBy w6 (Value.slice (some ⟨w2.heap.size, 0, none⟩) 0 0).ownBlock from hgrow6); clear hown6 hgrow6 hloc6)
            dsimp only [thenC]
            have hq6 : Chg [] w2 w6 := HQ5.out.grown HG6.out (fun k hk => .inr (by simp [Value.ownBlock] at hk; omega))
            -- 23
            refine wpC_listB rfl (HCB.out _ hq6) ?_
            intro m3
            simp only [List.getElem_toArray, List.getElem_cons_succ, List.getElem_cons_zero]
            have hq7 := hq6.drewN m3
            have hr7 := ownsRow_chg HO6.out ((Chg.refl [] w6).drewN m3) (by simp)
            rw [Nat.zero_add, List.nil_append] at hr7
            have HR7 := Lib.hid hr7
            have HQ7 := Lib.hid hq7
            clear hq6 hq7 hr7 HO6 HG6 HEM HSRC HQ5
            generalize w6.drewN m3 = w7 at HR7 HQ7 ⊢
            go_wp2_with fail
            dsimp only [thenC]
            -- 24
            refine wpC_listB rfl (HCB.out _ HQ7.out) ?_
            intro m4
            simp only [List.getElem_toArray, List.getElem_cons_succ, List.getElem_cons_zero]
            have HQ8 := Lib.hid (HQ7.out.drewN m4)
            have HR8 := Lib.hid (ownsRow_chg HR7.out ((Chg.refl [] w7).drewN m4) (by simp))
            clear HQ7 HR7
            generalize w7.drewN m4 = w8 at HR8 HQ8 ⊢
            go_wp2_with fail
            dsimp only [thenC]
            have HQ9 := Lib.hid (HQ8.out.alloc (.cells #[.int .i64 ((T.top : Int) + 1), .int .i64 (((S.blk p.1).tag : Nat) : Int), .slice va (S.blk p.1).fs.length vc] 73))
            have HR9 := Lib.hid (HR8.out.alloc (.cells #[.int .i64 ((T.top : Int) + 1), .int .i64 (((S.blk p.1).tag : Nat) : Int), .slice va (S.blk p.1).fs.length vc] 73))
            have hct := cells_three w8 (.int .i64 ((T.top : Int) + 1)) (.int .i64 (((S.blk p.1).tag : Nat) : Int)) (.slice va (S.blk p.1).fs.length vc) 73
            -- 25
            refine wpC_listB rfl (HCB.out _ HQ9.out) ?_
            intro m5
            simp only [List.getElem_toArray, List.getElem_cons_succ, List.getElem_cons_zero]
            have hrt := (HM2.out.after (HQ9.out.drewN m5)).now.row
            have HRT := Lib.hid hrt
            have HCT := Lib.hid hct
            have HQ10 := Lib.hid (HQ9.out.drewN m5)
            have HR10 := Lib.hid (ownsRow_chg HR9.out ((Chg.refl [] _).drewN m5) (by simp))
            have hcntT := HM2.out.now.count
            clear HQ8 HQ9 HR8 HR9 hct hrt
            go_wp2_with (at_builtin; go_loud (refine wpList_append_own_at _ rfl _ _ 68 rfl 0 73 j0 _ 3 40 Try.underlying68 hj hy0 hy1 hy2 rfl (by decide) lv T.L.length (rrow T fv T.L.length) rfl HRT.out ⟨w8.heap.size, 0, none⟩ 1 1 [.int .i64 ((T.top : Int) + 1), .int .i64 (((S.blk p.1).tag : Nat) : Int), .slice va (S.blk p.1).fs.length vc] rfl rfl HCT.out (by simp [Value.oneCell']) (by unfold maxLen; omega) (by omega) (by omega) ?_); intro v11 w11 hown11 hgrow11 hnil hloc11; obtain ⟨la', lc', hv11⟩ := ownsRow_slice hown11; subst hv11; have HO11 := Lib.hid hown11; have HG11 := Lib.hid (show ((w8.alloc (.cells #[.int .i64 ((T.top : Int) + 1), .int .i64 (((S.blk p.1).tag : Nat) : Int), .slice va (S.blk p.1).fs.length vc] 73)).drewN m5).grownBy w11 lv.ownBlock from hgrow11); have HL11 := Lib.hid hloc11; clear hown11 hgrow11 hnil hloc11)
            dsimp only [thenC]
            have hlike := HM2.out.like.push p.1
            have hown12 : w11.ownsRow 0 73 3 (.slice la' (T.L.length + 1) lc') (T.L.length + 1) (rrow T fv T.L.length ++ [.int .i64 ((T.top + 1 : Nat) : Int), .int .i64 (((S.blk p.1).tag : Nat) : Int), .slice va (S.blk p.1).fs.length vc]) := by
              have h := HO11.out
              rw [show ((T.top + 1 : Nat) : Int) = (T.top : Int) + 1 by omega]
              exact h
            obtain ⟨⟨s1, s2⟩, s3, s4, s5, s6⟩ := push_done HM2.out.now (hlike.ok HO.ok HGD.out) hbo HQ10.out HR10.out HG11.out hown12 HL11.out
            have hm10 := HM2.out.after HQ10.out
            have hk11 : w11.heap[m]? = some (.cells #[.pointer (some ⟨q, 0, none⟩), .pointer (some ⟨nq, 0, none⟩), .slice ga g.length gc] 113 (0, 0)) := by
              rw [HG11.out.block m (lt_of_heap hm10.k) (fun e => own_ne' hm10.now.row hm10.k (by decide) e.symm)]
              exact hm10.k
            have hb10 := HQ10.out.get HBB.out (by simp)
            have hb11 : w11.heap[bb]? = some (.cells #[.int .i64 ((S.pos p.1 : Nat) : Int), .int .i64 (((S.blk p.1).tag : Nat) : Int), .slice fa (S.blk p.1).fs.length fc] 73 (0, 0)) := by
              rw [HG11.out.block bb (lt_of_heap hb10) (fun e => HBL.out bb e.symm rfl)]
              exact hb10
            have hcb11 : w11.cell? ⟨m, 1, none⟩ = some (.pointer (some ⟨nq, 0, none⟩)) ∧ w11.cell? ⟨nq, 2, none⟩ = some lv ∧ w11.cell? ⟨bb, 1, none⟩ = some (.int .i64 (((S.blk p.1).tag : Nat) : Int)) ∧ w11.cell? ⟨bb, 2, none⟩ = some (.slice fa (S.blk p.1).fs.length fc) :=
              ⟨cell_at hk11 rfl, s1, cell_at hb11 rfl, cell_at hb11 rfl⟩
            have HS := Lib.hid (And.intro s3 (And.intro s4 (And.intro s5 s6)))
            have HCB11 := Lib.hid hcb11
            have HK11 := Lib.hid hk11
            clear hlike hown12 s3 s4 s5 s6 hm10 hb10 hcb11 hk11 hb11 HO11 HL11 HCT HRT HR10
            -- 26
            refine wpC_listB rfl HCB11.out ?_
            intro m6
            simp only [List.getElem_toArray, List.getElem_cons_succ, List.getElem_cons_zero]
            go_wp2_with fail
            dsimp only [thenC]
            -- 27
            refine wpC_listB rfl HCB11.out ?_
            intro m7
            simp only [List.getElem_toArray, List.getElem_cons_succ, List.getElem_cons_zero]
            go_wp2_with fail
            dsimp only [thenC]
            -- 28
            refine wpC_listB rfl HCB11.out ?_
            intro m8
            simp only [List.getElem_toArray, List.getElem_cons_succ, List.getElem_cons_zero]
            go_wp2_with fail
            dsimp only [thenC]
            refine wpC_nil ?_
            have hq14 : Chg [] w11 (w11.drewN (m6 + m7 + m8)) := (Chg.refl [] w11).drewN _
            have hrm14 : RM ((w11.drewN (m6 + m7 + m8)).setCell ⟨nq, 2, none⟩ (.slice la' (T.L.length + 1) lc')) nq (.slice la' (T.L.length + 1) lc') (upd fv T.L.length (.slice va (S.blk p.1).fs.length vc)) (T.push (S.blk p.1)) := HS.out.1.drewN (m6 + m7 + m8)
            have hch14 : Chg (nq :: lv.ownBlock.toList) w2 ((w11.drewN (m6 + m7 + m8)).setCell ⟨nq, 2, none⟩ (.slice la' (T.L.length + 1) lc')) := HS.out.2.1.drewN (m6 + m7 + m8)
            have hk14 : ((w11.drewN (m6 + m7 + m8)).setCell ⟨nq, 2, none⟩ (.slice la' (T.L.length + 1) lc')).heap[m]? = some (.cells #[.pointer (some ⟨q, 0, none⟩), .pointer (some ⟨nq, 0, none⟩), .slice ga g.length gc] 113 (0, 0)) := by
              rw [heap_set_ne _ (row_ne HM2.out.k HM2.out.now.a (by decide))]
              exact HK11.out
            have hgo14 : ((w11.drewN (m6 + m7 + m8)).setCell ⟨nq, 2, none⟩ (.slice la' (T.L.length + 1) lc')).ownsRow W.heap.size 3 1 (.slice ga g.length gc) g.length (nats g) := by
              refine row_keep (W := W) HM2.out.gone (Nat.le_refl _) hch14 (fun k hk => ?_)
              rw [List.mem_cons] at hk
              rcases hk with rfl | hk
              · exact .inr (.inr ⟨_, _, _, HM2.out.now.a, by decide⟩)
              · exact own_apart HM2.out.now.row (by decide) k hk
            clear hq14 HCB11 HK11 HQ10 HG11
            generalize (w11.drewN (m6 + m7 + m8)).setCell ⟨nq, 2, none⟩ (.slice la' (T.L.length + 1) lc') = w14 at hrm14 hch14 hk14 hgo14 ⊢
            have km2 := cell_at hk14 (o := 2) (v := .slice ga g.length gc) rfl
            have zm2 := free_at hk14 2
            obtain ⟨k0, hk0, hkz0, hkz1, hkz2⟩ := info_parts info_int'
            have HO15 := Lib.hid (hgo14.alloc (.cells #[.int .i64 ((p.1 : Nat) : Int)] 3))
            have hW14 : W.heap.size ≤ w14.heap.size := Nat.le_trans HM2.out.chg.size hch14.size
            have HR14 := Lib.hid (And.intro hrm14 (And.intro hch14 (And.intro hk14 hgo14)))
            clear hrm14 hch14 hk14 hgo14
            go_upto_region 12 with (at_builtin; go_loud (refine wpList_append_own_at _ rfl _ _ 64 rfl W.heap.size 3 k0 (.int .i64 0) 1 8 Try.underlying64 hk0 hkz0 hkz1 hkz2 rfl (by decide) _ _ _ rfl HO15.out ⟨w14.heap.size, 0, none⟩ 1 1 [.int .i64 ((p.1 : Nat) : Int)] rfl rfl (cell_one_new _ _ _) (ints_oneCell .i64 [((p.1 : Nat) : Int)]) (by unfold maxLen; omega) (by omega) (by simp; omega) ?_); intro v15 w15 hown15 hgrow15 hnil hloc15; have HO16 := Lib.hid hown15; have HG16 := Lib.hid (show (w14.alloc (.cells #[.int .i64 ((p.1 : Nat) : Int)] 3)).grownBy w15 (Value.slice ga g.length gc).ownBlock from hgrow15); have HK16 : w15.heap[m]? = some (.cells #[.pointer (some ⟨q, 0, none⟩), .pointer (some ⟨nq, 0, none⟩), .slice ga g.length gc] 113 (0, 0)) := (by rw [hgrow15.block m (by simp only [size_alloc]; have := lt_of_heap HR14.out.2.2.1; omega) (fun e => own_ne' HR14.out.2.2.2 HR14.out.2.2.1 (by decide) e.symm), Below.heap_alloc _ _ _ (lt_of_heap HR14.out.2.2.1)]; exact HR14.out.2.2.1); have q1 := cell_at HK16 (o := 2) (v := .slice ga g.length gc) rfl; have q2 := free_at HK16 2; have HK17 := Lib.hid HK16; clear HK16; obtain ⟨ga', gc', hv15⟩ := ownsRow_slice hown15; subst hv15; clear hown15 hgrow15 hnil hloc15)
            have hk16 := heap_set (o := 2) HK17.out (.slice ga' (g.length + 1) gc')
            have hc16 : Chg (m :: (Value.slice ga g.length gc).ownBlock.toList) w14 (w15.setCell ⟨m, 2, none⟩ (.slice ga' (g.length + 1) gc')) :=
              (((Chg.refl _ w14).alloc _).grown HG16.out (fun k hk => .inl (by rw [hk]; simp))).set _ (.inl (by simp))
            have hrm16 := HR14.out.1.keepF hc16 (fun k hk => by
              rw [List.mem_cons] at hk
              rcases hk with rfl | hk
              · exact ⟨_, _, _, HR14.out.2.2.1, by decide⟩
              · obtain ⟨cs, fz, h⟩ := own_type HR14.out.2.2.2 k hk
                exact ⟨cs, _, fz, h, by decide⟩)
            have hgo16 : (w15.setCell ⟨m, 2, none⟩ (.slice ga' (g.length + 1) gc')).ownsRow W.heap.size 3 1 (.slice ga' (g.length + 1) gc') (g.length + 1) (nats g ++ [.int .i64 ((p.1 : Nat) : Int)]) := ownsRow_set HO16.out (own_ne' HO16.out HK17.out (by decide)) _
            have hcW16 : Chg [] W (w15.setCell ⟨m, 2, none⟩ (.slice ga' (g.length + 1) gc')) := by
              refine (HM2.out.chg.over HR14.out.2.1 ?_).over hc16 ?_
              · intro k hk
                rw [List.mem_cons] at hk
                rcases hk with rfl | hk
                · exact HM2.out.fnow _ (by simp [rfoot])
                · exact HM2.out.fnow k (by simp only [rfoot, List.mem_cons, List.mem_append]; exact .inr (.inl hk))
              · intro k hk
                rw [List.mem_cons] at hk
                rcases hk with rfl | hk
                · exact HM2.out.fm
                · rw [Option.mem_toList] at hk
                  exact (HR14.out.2.2.2.lt k hk).1
            have hcw16 : Chg (mfoot m nq lv (.slice ga g.length gc)) w (w15.setCell ⟨m, 2, none⟩ (.slice ga' (g.length + 1) gc')) := by
              refine ((HC2.out.mono (by simp)).trans (HR14.out.2.1.mono ?_)).trans (hc16.mono ?_)
              · intro k hk
                unfold mfoot
                rw [List.mem_cons] at hk
                simp only [List.mem_cons, List.mem_append]
                rcases hk with rfl | hk
                · exact .inr (.inl rfl)
                · exact .inr (.inr (.inl hk))
              · intro k hk
                unfold mfoot
                rw [List.mem_cons] at hk
                simp only [List.mem_cons, List.mem_append]
                rcases hk with rfl | hk
                · exact .inl rfl
                · exact .inr (.inr (.inr hk))
            have hfn16 : ∀ k ∈ rfoot nq (.slice la' (T.L.length + 1) lc') (upd fv T.L.length (.slice va (S.blk p.1).fs.length vc)) (T.push (S.blk p.1)).L.length, W.heap.size ≤ k := by
              have hWw2 : W.heap.size ≤ w2.heap.size := HM2.out.chg.size
              intro k hk
              unfold rfoot at hk
              simp only [List.mem_cons, List.mem_append, List.mem_flatMap, List.mem_range] at hk
              rcases hk with rfl | hk | ⟨j, hj, hk⟩
              · exact HM2.out.fnow _ (by simp [rfoot])
              · rw [Option.mem_toList] at hk
                rcases HS.out.2.2.1 with e | ⟨k2, e, hk2⟩
                · rw [hk] at e
                  exact HM2.out.fnow k (by simp only [rfoot, List.mem_cons, List.mem_append]; exact .inr (.inl (by rw [Option.mem_toList]; exact e.symm)))
                · rw [hk] at e
                  cases e; omega
              · rw [Option.mem_toList] at hk
                unfold upd at hk
                by_cases e : j = T.L.length
                · rw [if_pos e] at hk
                  have := HS.out.2.2.2 k hk
                  omega
                · rw [if_neg e] at hk
                  rw [push_len] at hj
                  exact HM2.out.fnow k (by simp only [rfoot, List.mem_cons, List.mem_append, List.mem_flatMap, List.mem_range]; exact .inr (.inr ⟨j, by omega, by rw [hk]; simp⟩))
            have hfr16 : ∀ k ∈ rfoot nq (.slice la' (T.L.length + 1) lc') (upd fv T.L.length (.slice va (S.blk p.1).fs.length vc)) (T.push (S.blk p.1)).L.length, k ∈ rfoot nq lv fv T.L.length ∨ w.heap.size ≤ k := by
              intro k hk
              unfold rfoot at hk
              simp only [List.mem_cons, List.mem_append, List.mem_flatMap, List.mem_range] at hk
              rcases hk with rfl | hk | ⟨j, hj, hk⟩
              · exact .inl (by simp [rfoot])
              · rw [Option.mem_toList] at hk
                rcases HS.out.2.2.1 with e | ⟨k2, e, hk2⟩
                · rw [hk] at e
                  exact .inl (by simp only [rfoot, List.mem_cons, List.mem_append]; exact .inr (.inl (by rw [Option.mem_toList]; exact e.symm)))
                · rw [hk] at e
                  cases e; exact .inr (by omega)
              · rw [Option.mem_toList] at hk
                unfold upd at hk
                by_cases e : j = T.L.length
                · rw [if_pos e] at hk
                  have := HS.out.2.2.2 k hk
                  exact .inr (by omega)
                · rw [if_neg e] at hk
                  rw [push_len] at hj
                  exact .inl (by simp only [rfoot, List.mem_cons, List.mem_append, List.mem_flatMap, List.mem_range]; exact .inr (.inr ⟨j, by omega, by rw [hk]; simp⟩))
            have HFR := Lib.hid hfr16
            clear hfr16
            have hmv : MV W (w15.setCell ⟨m, 2, none⟩ (.slice ga' (g.length + 1) gc')) m q nq S (T.push (S.blk p.1)) (g ++ [p.1]) (.slice ga' (g.length + 1) gc') (.slice la' (T.L.length + 1) lc') (upd fv T.L.length (.slice va (S.blk p.1).fs.length vc)) := by
              refine ⟨hcW16, hk16, hrm16, ?_, HGD.out, HM2.out.like.push p.1, HM2.out.fm, hfn16⟩
              rw [List.length_append, List.length_singleton]
              unfold nats at hgo16 ⊢
              rw [List.map_append]
              exact hgo16
            have HMV := Lib.hid (And.intro hmv hcw16)
            have km1 := cell_at hk16 (o := 1) (v := .pointer (some ⟨nq, 0, none⟩)) rfl
            have kn2 := hrm16.fields.2.2
            obtain ⟨lg, e9, kr⟩ : ∃ lg, la' = some ⟨lg, 0, none⟩ ∧ (w15.setCell ⟨m, 2, none⟩ (.slice ga' (g.length + 1) gc')).cell? ⟨lg, T.L.length * 3, none⟩ = some (.int .i64 ((T.top : Int) + 1)) := by
              rcases hrm16.rows with ⟨_, h0⟩ | ⟨lg, lcap, e, hc, hr⟩
              · rw [push_len] at h0; omega
              · simp only [Value.slice.injEq] at e
                have h9 := (hr T.L.length (by rw [push_len]; omega)).1
                rw [push_pos T _ (Nat.le_refl _), pos_top] at h9
                exact ⟨lg, e.1, by rw [h9]; congr 2⟩
            subst e9
            have hTl : T.L.length ≤ 32768 := HM2.out.now.count
            have hpf : ptr (T.top + 1 + p.2) = 2 * ((T.top : Int) + 1 + (p.2 : Int)) := by unfold ptr; push_cast; rfl
            have hfit : T.top + 1 + p.2 ≤ 131072 := by omega
            have HP := Lib.hid (fun w => rPtr_any ((T.top : Int) + 1 + (p.2 : Int)) (by omega) (by omega) w)
            have HPF := Lib.hid hpf
            clear hk16 hc16 hrm16 hgo16 hcW16 hcw16 hfn16 hmv hpf q1 q2 km2 zm2 HS HR14 HO15 HO16 HG16 HK17
            generalize w15.setCell ⟨m, 2, none⟩ (.slice ga' (g.length + 1) gc') = w16 at HMV km1 kn2 kr ⊢
            have hw1 : IntKind.i64.wrap ((T.L.length : Int) + 1 - 1) = (T.L.length : Int) := by rw [show (T.L.length : Int) + 1 - 1 = (T.L.length : Int) by omega]; exact IntWalk.i64_in _ (by omega)
            go_wp2_with fail
            refine region_quiet (by kernel_rfl) (by kernel_rfl) ?_
            repeat go_big_quiet_step ((go_at_call 24; exact Calls.quiet_of_same (HP.out _)))
            refine wpQuiet_nil ?_
            intro m9
            go_wp2_with fail
            go_ret
            exact ⟨ret_i HPF.out.symm, _, _, _, HMV.out.1.after ((Chg.refl [] w16).drewN m9), HMV.out.2.drewN m9, HFR.out⟩
end

end Go.Proofs.Ytleoedjjepkhgaa
