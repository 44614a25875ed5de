import Derived.Test.YtleoedjjepkhgaaFlip
import Derived.Test.YtleoedjjepkhgaaTail
import Derived.Maps.AppendAt
/- (*Arena).Alloc. -/
namespace Go.Proofs.Ytleoedjjepkhgaa
open Go.RowKit

theorem Chg.get {F : List Nat} {w w' : World} (h : Chg F w w') {k : Nat} {o : Obj} (hk : w.heap[k]? = some o) (hF : k ∉ F) : w'.heap[k]? = some o := by
  rw [h.block k (lt_of_heap hk) hF]; exact hk

theorem Chg.trans {F : List Nat} {a b c : World} (h : Chg F a b) (k : Chg F b c) : Chg F a c :=
  ⟨k.os.trans h.os, k.tape.trans h.tape, k.output.trans h.output, Nat.le_trans h.size k.size, fun i hi hF => (k.block i (Nat.lt_of_lt_of_le hi h.size) hF).trans (h.block i hi hF)⟩

theorem Chg.mono {F G : List Nat} {a b : World} (h : Chg F a b) (hFG : ∀ k ∈ F, k ∈ G) : Chg G a b :=
  ⟨h.os, h.tape, h.output, h.size, fun i hi hG => h.block i hi fun hF => hG (hFG i hF)⟩

theorem Chg.alloc {F : List Nat} {w w' : World} (h : Chg F w w') (o : Obj) : Chg F w (w'.alloc o) :=
  ⟨h.os, h.tape, h.output, Nat.le_trans h.size (by simp), fun k hk hF => (Below.heap_alloc _ _ _ (Nat.lt_of_lt_of_le hk h.size)).trans (h.block k hk hF)⟩

theorem Chg.grown {F : List Nat} {w w' w'' : World} {row : Option Nat} (h : Chg F w w') (g : w'.grownBy w'' row) (hr : ∀ k, row = some k → k ∈ F ∨ w.heap.size ≤ k) : Chg F w w'' :=
  ⟨g.os.trans h.os, g.tape.trans h.tape, g.output.trans h.output, Nat.le_trans h.size g.size, fun k hk hF => by
    rw [g.block k (Nat.lt_of_lt_of_le hk h.size) (fun e => by rcases hr k e.symm with h1 | h1; exact hF h1; omega)]
    exact h.block k hk hF⟩

/-! ### the state -/

def St.alloc (S : St) (t m : Nat) : St := { S with L := S.L ++ [⟨t, List.replicate m 1⟩] }

theorem alloc_pos (S : St) (t m : Nat) {k : Nat} (hk : k ≤ S.L.length) : (S.alloc t m).pos k = S.pos k := by
  unfold St.pos St.alloc
  dsimp only
  rw [List.take_append_of_le_length hk]
  rfl

theorem pos_len (S : St) : S.pos S.L.length = S.top + 1 := by unfold St.pos St.top; rw [List.take_length]

theorem alloc_blk (S : St) (t m : Nat) {k : Nat} (hk : k < S.L.length) : (S.alloc t m).blk k = S.blk k := by
  unfold St.blk St.alloc
  dsimp only
  rw [List.getD_eq_getElem?_getD, List.getD_eq_getElem?_getD, List.getElem?_append_left hk]

theorem alloc_new (S : St) (t m : Nat) : (S.alloc t m).blk S.L.length = ⟨t, List.replicate m 1⟩ := by
  unfold St.blk St.alloc
  dsimp only
  rw [List.getD_eq_getElem?_getD, List.getElem?_append_right (Nat.le_refl _)]
  simp

theorem alloc_span (S : St) (t m : Nat) : span (S.alloc t m).L = span S.L + (1 + m) := by
  unfold St.alloc; dsimp only; rw [span_append]; simp [span]

theorem alloc_len (S : St) (t m : Nat) : (S.alloc t m).L.length = S.L.length + 1 := by simp [St.alloc]

theorem alloc_top (S : St) (t m : Nat) : (S.alloc t m).top = S.top + 1 + m := by
  unfold St.top; rw [alloc_span]; unfold St.base St.alloc; dsimp only; omega

theorem alloc_starts (S : St) (t m : Nat) : (S.alloc t m).starts = S.starts ++ [S.top + 1] := by
  unfold St.starts
  rw [alloc_len, List.range_succ, List.map_append]
  congr 1
  · exact List.map_congr_left fun k hk => alloc_pos S t m (Nat.le_of_lt (List.mem_range.1 hk))
  · simp only [List.map_cons, List.map_nil]; rw [alloc_pos S t m (Nat.le_refl _), pos_len]

theorem alloc_ok {S : St} (h : S.ok) {t m : Nat} (hf : S.top + m + 1 ≤ S.base + S.n) : (S.alloc t m).ok :=
  ⟨h.n2, h.n3, h.up, by rw [alloc_span]; unfold St.top at hf; show span S.L + (1 + m) ≤ S.n; omega⟩

theorem alloc_blks {S : St} (h : ∀ b ∈ S.L, b.ok) {t m : Nat} (ht : tagOk t) (hm : m ≤ 4096) : ∀ b ∈ (S.alloc t m).L, b.ok := by
  intro b hb
  rcases List.mem_append.1 hb with hb | hb
  · exact h b hb
  · simp at hb
    subst hb
    refine ⟨ht, by simpa using hm, ?_⟩
    intro x hx
    have := List.eq_of_mem_replicate hx
    subst this
    exact ⟨by omega, by omega⟩

theorem pos_le_top {S : St} {k : Nat} (hk : k < S.L.length) : S.pos k + (S.blk k).fs.length ≤ S.top := by
  have h1 := span_take_get S.L k (S.blk k) (blk_get hk)
  unfold St.pos St.top
  omega

theorem alloc_cells {cs ds : List Int} {S : St} (H : Cells cs S) {t m : Nat}
    (hd1 : wat ds S.top = hd t m) (hd2 : ∀ j, j < m → wat ds (S.top + 1 + j) = 1) (hd3 : ∀ j, j < S.top → wat ds j = wat cs j) : Cells ds (S.alloc t m) := by
  have h1 : ∀ m, 1 ≤ S.pos m := by intro m; unfold St.pos; omega
  constructor
  · intro k hk
    rw [alloc_len] at hk
    rw [alloc_pos S t m (by omega)]
    by_cases e : k = S.L.length
    · subst e; rw [pos_len, alloc_new]; simpa using hd1
    · have hk' : k < S.L.length := by omega
      have := pos_le_top hk'
      rw [alloc_blk S t m hk', hd3 _ (by have := h1 k; omega), H.head k hk']
  · intro k hk j hj
    rw [alloc_len] at hk
    rw [alloc_pos S t m (by omega)]
    by_cases e : k = S.L.length
    · subst e
      rw [alloc_new] at hj ⊢
      simp only [List.length_replicate] at hj
      rw [pos_len, hd2 j hj]
      simp [wat, hj]
    · have hk' : k < S.L.length := by omega
      rw [alloc_blk S t m hk'] at hj ⊢
      have := pos_le_top hk'
      rw [hd3 _ (by omega), H.field k hk' j hj]

/-! ### the walk -/

theorem info_int : (Try.prog.info? 3).map (fun i => (i.zero, i.size, i.bytes)) = some (some (.int .i64 0), 1, 8) := by kernel_rfl
theorem info_word : (Try.prog.info? 49).map (fun i => (i.zero, i.size, i.bytes)) = some (some (.int .u64 0), 1, 8) := by kernel_rfl

/-- in the middle: the head is laid, and k fields -/
structure Mid (w wr : World) (c top t m n2 k : Nat) (cs ds : List Int) : Prop where
  chg : Chg [c] w wr
  row : wr.heap[c]? = some (.cells (words ds).toArray 49 (0, 0))
  len : ds.length = n2
  rng : ∀ x ∈ ds, Wd x
  head : wat ds top = hd t m
  old : ∀ j, j < top → wat ds j = wat cs j
  new : ∀ j, j < k → wat ds (top + 1 + j) = 1

theorem hd_wd {t m : Nat} (h1 : t ≤ 255) (h2 : m ≤ 4096) : Wd (hd t m) := by unfold hd Wd; omega

section
variable {w : World} {p h c : Nat} {sv : Value} {cs : List Int} {S : St}

theorem mid_zero (H : AM w p h c sv cs S) {t m : Nat} (h1 : t ≤ 255) (h2 : m ≤ 4096) (hf : S.top < 2 * S.n) (n : Nat) :
    Mid w ((w.drewN n).setCell ⟨c, S.top, none⟩ (.int .u64 (2 * (256 * (m : Int) + (t : Int)) + 1))) c S.top t m (2 * S.n) 0 cs (cs.set S.top (hd t m)) := by
  have hlt : S.top < cs.length := by rw [H.len]; exact hf
  refine ⟨((Chg.refl _ _).drewN n).set _ (by simp), ?_, by rw [List.length_set]; exact H.len, mem_set_wd H.rng _ (hd_wd h1 h2), ?_, ?_, by omega⟩
  · rw [heap_set (w := w.drewN n) H.cc]
    exact congrArg (fun x => some (Obj.cells x _ _)) (words_set cs S.top (hd t m))
  · rw [wat_set _ _ _ _ hlt, if_pos rfl]
  · intro j hj; rw [wat_set _ _ _ _ hlt, if_neg (by omega)]

theorem Mid.step {wr : World} {c top t m n2 k : Nat} {cs ds : List Int} (H : Mid w wr c top t m n2 k cs ds) (hk : top + 1 + k < n2) (n : Nat) :
    Mid w ((wr.drewN n).setCell ⟨c, top + 1 + k, none⟩ (.int .u64 1)) c top t m n2 (k + 1) cs (ds.set (top + 1 + k) 1) := by
  have hlt : top + 1 + k < ds.length := by rw [H.len]; exact hk
  refine ⟨(H.chg.drewN n).set _ (by simp), ?_, by rw [List.length_set]; exact H.len, mem_set_wd H.rng _ ⟨by omega, by omega⟩, ?_, ?_, ?_⟩
  · rw [heap_set (w := wr.drewN n) H.row]
    exact congrArg (fun x => some (Obj.cells x _ _)) (words_set ds (top + 1 + k) 1)
  · rw [wat_set _ _ _ _ hlt, if_neg (by omega)]; exact H.head
  · intro j hj; rw [wat_set _ _ _ _ hlt, if_neg (by omega)]; exact H.old j hj
  · intro j hj
    rw [wat_set _ _ _ _ hlt]
    split
    · rfl
    · exact H.new j (by omega)

theorem ownsRow_chg {F : List Nat} {w w' : World} {base : Nat} {e : TypeId} {size : Nat} {v : Value} {n : Nat} {xs : List Value} (H : w.ownsRow base e size v n xs) (h : Chg F w w') (hv : ∀ k, v.ownBlock = some k → k ∉ F) : w'.ownsRow base e size v n xs := by
  obtain ⟨h1, h2⟩ := H
  refine ⟨h1, ?_⟩
  rcases h2 with h2 | ⟨g, cap, cur, rfl, hb, hg, rest⟩
  · exact .inl h2
  · exact .inr ⟨g, cap, cur, rfl, hb, h.get hg (hv g rfl), rest⟩

/-- a row's value is a slice -/
theorem ownsRow_slice {w : World} {base : Nat} {e : TypeId} {size : Nat} {v : Value} {n : Nat} {xs : List Value} (H : w.ownsRow base e size v n xs) : ∃ a cap, v = .slice a n cap := by
  rcases H.2 with ⟨rfl, rfl⟩ | ⟨g, cap, cur, rfl, _⟩
  · exact ⟨none, 0, rfl⟩
  · exact ⟨_, cap, rfl⟩

/-- the world behind Alloc -/
theorem alloc_done (H : AM w p h c sv cs S) {wr w2 : World} {t m : Nat} {ds : List Int} {v' : Value} (ht : tagOk t) (h3 : m ≤ 4096) (hf : S.top + m + 1 ≤ S.base + S.n)
    (hm : Mid w wr c S.top t m (2 * S.n) m cs ds)
    (hg : ((wr.setCell ⟨h, 3, none⟩ (.int .i64 ((S.top : Int) + 1 + m))).alloc (.cells #[.int .i64 ((S.top : Int) + 1)] 3)).grownBy w2 sv.ownBlock)
    (hown : w2.ownsRow 0 3 1 v' (S.L.length + 1) (nats S.starts ++ [.int .i64 ((S.top : Int) + 1)]))
    (hloc : v'.ownBlock = sv.ownBlock ∨ v'.ownBlock = some ((wr.setCell ⟨h, 3, none⟩ (.int .i64 ((S.top : Int) + 1 + m))).alloc (.cells #[.int .i64 ((S.top : Int) + 1)] 3)).heap.size) :
    AM (w2.setCell ⟨p, 1, none⟩ v') p h c v' ds (S.alloc t m) ∧ Chg (foot p h c sv) w (w2.setCell ⟨p, 1, none⟩ v') ∧ (v'.ownBlock = sv.ownBlock ∨ ∃ k, v'.ownBlock = some k ∧ w.heap.size ≤ k) := by
  have d1 : p ≠ c := row_ne H.a H.cc (by decide)
  have d2 : h ≠ c := row_ne H.hv H.cc (by decide)
  have d3 : p ≠ h := row_ne H.a H.hv (by decide)
  have n1 := H.starts_ne H.a (by decide)
  have n2 := H.starts_ne H.hv (by decide)
  have n3 := H.starts_ne H.cc (by decide)
  have hp : wr.heap[p]? = _ := hm.chg.get H.a (by simp [d1])
  have hh : wr.heap[h]? = _ := hm.chg.get H.hv (by simp [d2])
  have past : ∀ k o, (wr.setCell ⟨h, 3, none⟩ (.int .i64 ((S.top : Int) + 1 + m))).heap[k]? = some o → sv.ownBlock ≠ some k → w2.heap[k]? = some o := by
    intro k o hk hne
    have hlt := lt_of_heap hk
    rw [hg.block k (by simp only [World.alloc, Array.size_push]; omega) (fun e => hne e.symm), Below.heap_alloc _ _ _ hlt]
    exact hk
  have q1 := past p _ (by rw [heap_set_ne _ d3]; exact hp) n1
  have q2 := past h _ (heap_set hh (.int .i64 ((S.top : Int) + 1 + m))) n2
  have q3 := past c _ (by rw [heap_set_ne _ (fun e => d2 e.symm)]; exact hm.row) n3
  have hv1 : v'.ownBlock ≠ some p := by
    rcases hloc with e | e
    · rw [e]; exact n1
    · rw [e]
      intro e2
      have e3 : ((wr.setCell ⟨h, 3, none⟩ (.int .i64 ((S.top : Int) + 1 + m))).alloc (.cells #[.int .i64 ((S.top : Int) + 1)] 3)).heap.size = p := by simpa using e2
      have := lt_of_heap hp
      simp only [World.alloc, Array.size_push, size_set] at e3
      omega
  have hsz : w.heap.size ≤ wr.heap.size := hm.chg.size
  have chg1 : Chg (foot p h c sv) w w2 := by
    have k1 : Chg (foot p h c sv) w wr := hm.chg.mono (by simp [foot])
    have k2 := (Chg.set (b := h) (o := 3) k1 (.int .i64 ((S.top : Int) + 1 + m)) (.inl (by simp [foot]))).alloc (.cells #[.int .i64 ((S.top : Int) + 1)] 3)
    exact k2.grown hg (fun k hk => .inl (by simp [foot, hk]))
  refine ⟨⟨?_, ?_, ?_, hm.len, ?_, alloc_cells H.cells hm.head hm.new hm.old, hm.rng, alloc_ok H.ok hf, alloc_blks H.blks ht h3⟩, ?_, ?_⟩
  · exact heap_set q1 v'
  · rw [heap_set_ne _ (fun e => d3 e.symm), q2, alloc_top]
    congr 1
  · rw [heap_set_ne _ (fun e => d1 e.symm)]; exact q3
  · rw [alloc_starts, alloc_len]
    refine ownsRow_set ?_ hv1 _
    have e : nats (S.starts ++ [S.top + 1]) = nats S.starts ++ [.int .i64 ((S.top : Int) + 1)] := by simp [nats]
    rw [e]; exact hown
  · exact Chg.set chg1 _ (.inl (by simp [foot]))
  · rcases hloc with e | e
    · exact .inl e
    · refine .inr ⟨_, e, ?_⟩
      simp only [World.alloc, Array.size_push, size_set]
      omega

theorem alloc_keeps (H : AM w p h c sv cs S) {wr w2 : World} {t m : Nat} {ds : List Int} (hm : Mid w wr c S.top t m (2 * S.n) m cs ds) (x y : Value)
    (hg : ((wr.setCell ⟨h, 3, none⟩ x).alloc (.cells #[y] 3)).grownBy w2 sv.ownBlock) : w2.cell? ⟨p, 1, none⟩ = some sv ∧ w2.frozen? ⟨p, 1, none⟩ = false := by
  have d1 : p ≠ c := row_ne H.a H.cc (by decide)
  have d3 : p ≠ h := row_ne H.a H.hv (by decide)
  have n1 := H.starts_ne H.a (by decide)
  have hp : wr.heap[p]? = _ := hm.chg.get H.a (by simp [d1])
  have q : w2.heap[p]? = some (.cells #[.pointer (some ⟨h, 0, none⟩), sv] 66 (0, 0)) := by
    have hlt := lt_of_heap hp
    rw [hg.block p (by simp only [World.alloc, Array.size_push, size_set]; omega) (fun e => n1 e.symm), Below.heap_alloc _ _ _ (by rw [size_set]; exact hlt), heap_set_ne _ d3]
    exact hp
  exact ⟨cell_at q rfl, free_at q 1⟩

set_option maxHeartbeats 2000000 in
set_option maxRecDepth 100000 in
theorem alloc_walk (H : AM w p h c sv cs S) (t m : Nat) (ht : tagOk t) (h3 : m ≤ 4096) (b5 : (S.top : Int) + m + 1 ≤ (S.base : Int) + (S.n : Int)) :
    Calls Try.prog 52 #[.pointer (some ⟨p, 0, none⟩), .int .i64 t, .int .i64 m] w fun e w' =>
      e = .returned (.tuple #[.int .u64 (2 * ((S.top : Int) + 1)), .int .i64 0]) ∧ Chg (foot p h c sv) w w' ∧ ∃ sv' ds, AM w' p h c sv' ds (S.alloc t m) ∧ (sv'.ownBlock = sv.ownBlock ∨ ∃ k, sv'.ownBlock = some k ∧ w.heap.size ≤ k) := by
  obtain ⟨f1, f2, f3, f4, f5, f6⟩ := H.fields
  have z1 := free_at H.hv 3
  have z2 := free_at H.a 1
  have z3 := fun o => free_at H.cc o
  have hn : S.n ≤ 32768 := H.ok.n3
  have hbn : S.base ≤ S.n := by unfold St.base; have h7 : S.n * S.up ≤ S.n * 1 := Nat.mul_le_mul_left _ H.ok.up; omega
  have htn : S.top < 2 * S.n := by omega
  have hc0 := H.cell htn
  have hz0 := z3 S.top
  have d1 : p ≠ c := row_ne H.a H.cc (by decide)
  have d2 : h ≠ c := row_ne H.hv H.cc (by decide)
  have d3 : p ≠ h := row_ne H.a H.hv (by decide)
  have h1 : t ≤ 255 := by unfold tagOk at ht; omega
  have ht0 := ht
  have b1 : decide ((t : Int) < 0) = false := decide_eq_false (by omega)
  have b3 : decide ((m : Int) < 0) = false := decide_eq_false (by omega)
  have b4 : decide (4096 < (m : Int)) = false := decide_eq_false (by omega)
  have b6 : decide ((S.base : Int) + (S.n : Int) < (S.top : Int) + m + 1) = false := decide_eq_false (by omega)
  clear z3
  have mid0 := Lib.hid (mid_zero H h1 h3 htn)
  rcases ht with ht | ht | ht
  case' inl => have c1 : decide (199 < (t : Int)) = false := decide_eq_false (by omega)
  case' inr.inl =>
    have c1 : decide (199 < (t : Int)) = true := decide_eq_true (by omega)
    have c2 : ((t : Int) != 200) = false := by rw [bne_eq_false_iff_eq]; omega
  case' inr.inr =>
    have c1 : decide (199 < (t : Int)) = true := decide_eq_true (by omega)
    have c2 : ((t : Int) != 200) = true := by rw [bne_iff_ne]; omega
    have c3 : ((t : Int) != 202) = false := by rw [bne_eq_false_iff_eq]; omega
  all_goals
    clear ht
    go_enter Try.func52, Try.ntmps52
    go_wp2
    go_quiet (fail)
    go_wp2
    refine region_quiet_tail_at 18 (by kernel_rfl) (by kernel_rfl) ?_
    simp only [List.take_succ_cons, List.take_zero, List.drop_succ_cons, List.drop_zero]
    repeat go_big_quiet_step ((go_at_call 64; exact Calls.quiet_of_same (wHead_any t m (by omega) (by omega) (by omega) (by omega) _)))
    refine wpQuiet_nil ?_
    intro nr
    go_wp2
    have hmid := mid0.out nr
    clear mid0
    generalize hw1 : (w.drewN nr).setCell ⟨c, S.top, none⟩ (.int .u64 (2 * (256 * (m : Int) + (t : Int)) + 1)) = w1 at *
    clear hw1 hc0 hz0
    go_loopw [86] (fun v wr => ∃ k : Nat, k ≤ m ∧ v = .int .i64 k ∧ ∃ ds, Mid w wr c S.top t m (2 * S.n) k cs ds) (fun v _ => m - (intOf v).toNat)
    case atStart => exact ⟨0, Nat.zero_le _, rfl, _, hmid⟩
    case round =>
      obtain ⟨k, hk, rfl, ds, hm⟩ := hrel
      clear hmid
      have g1 := cell_at (hm.chg.get H.a (by simp [d1])) (o := 0) (v := .pointer (some ⟨h, 0, none⟩)) rfl
      have g2 := cell_at (hm.chg.get H.a (by simp [d1])) (o := 1) (v := sv) rfl
      have g3 := cell_at (hm.chg.get H.hv (by simp [d2])) (o := 0) (v := .slice (some ⟨c, 0, none⟩) (2 * S.n) (2 * S.n)) rfl
      have g4 := cell_at (hm.chg.get H.hv (by simp [d2])) (o := 3) (v := .int .i64 (S.top : Int)) rfl
      have z3 := free_at (hm.chg.get H.hv (by simp [d2])) 3
      have z4 := free_at (hm.chg.get H.a (by simp [d1])) 1
      clear f1 f2 f3 f4 f5 f6 z1 z2
      by_cases hlt : k < m
      · have hc1 := cell_at hm.row (o := S.top + 1 + k) (v := .int .u64 (wat ds (S.top + 1 + k))) (by have := words_get (xs := ds) (k := S.top + 1 + k) (by rw [hm.len]; omega); simpa using this)
        have hz1 := free_at hm.row (S.top + 1 + k)
        have hst := Lib.hid (hm.step (show S.top + 1 + k < 2 * S.n by omega))
        have hdec : decide ((k : Int) < (m : Int)) = true := decide_eq_true (by omega)
        go_wp2
        refine region_quiet_tail 12 (by kernel_rfl) (by kernel_rfl) ?_
        simp only [List.take_succ_cons, List.take_zero, List.drop_succ_cons, List.drop_zero]
        repeat go_big_quiet_step ((go_at_call 66; exact Calls.quiet_of_same (wInt_nat 0 (by omega) (by omega) _)))
        refine wpQuiet_nil ?_
        intro ns
        go_wp2
        go_roundw
        case rel => exact ⟨k + 1, by omega, by go_num, _, hst.out ns⟩
        case measure => simp [intOf]; omega
      · obtain rfl : k = m := by omega
        have hdec : decide ((k : Int) < (k : Int)) = false := decide_eq_false (by omega)
        have hcnt := H.count
        have hown0 := ownsRow_chg H.starts hm.chg (fun k hk => by
          have := H.starts_ne H.cc (by decide)
          rw [hk] at this
          simpa using this)
        have hown1 := Lib.hid ((ownsRow_set (b := h) (o := 3) hown0 (H.starts_ne H.hv (by decide)) (.int .i64 ((S.top : Int) + 1 + k))).alloc (.cells #[.int .i64 ((S.top : Int) + 1)] 3))
        have hfit : S.top + k + 1 ≤ S.base + S.n := by omega
        have DONE := fun (w2 : World) (v' : Value) => Lib.hid (alloc_done (w2 := w2) (v' := v') H ht0 h3 hfit hm)
        have KEEP := fun (w2 : World) => Lib.hid (alloc_keeps (w2 := w2) H hm (.int .i64 ((S.top : Int) + 1 + k)) (.int .i64 ((S.top : Int) + 1)))
        obtain ⟨i0, hi, hz0, hz1, hz2⟩ := info_parts info_int
        clear hown0
        go_wp2_with (first | (at_builtin; refine wpList_append_own_at _ rfl _ _ 64 rfl 0 3 i0 (.int .i64 0) 1 8 Try.underlying64 hi hz0 hz1 hz2 rfl (by decide) _ _ _ rfl hown1.out ⟨wr.heap.size, 0, none⟩ 1 1 [.int .i64 ((S.top : Int) + 1)] rfl rfl (by first | exact cell_one_new _ _ _ | (simpa using cell_one_new (wr.setCell ⟨h, 3, none⟩ (.int .i64 ((S.top : Int) + 1 + k))) (.int .i64 ((S.top : Int) + 1)) 3)) (ints_oneCell .i64 [(S.top : Int) + 1]) (by unfold maxLen; omega) (by omega) (by omega) ?_; intro v' w2 hown2 hgrow2 hnil hloc; obtain ⟨q1, q2⟩ := (KEEP w2).out hgrow2; have HD := Lib.hid ((DONE w2 v').out hgrow2 hown2 hloc); obtain ⟨va, vc, hv'⟩ := ownsRow_slice hown2; clear hown2 hgrow2 hnil hloc; subst hv') | (go_at_call 47; refine (wPtr_any _ (by omega) (by omega) _).mono ?_; rintro e w' ⟨rfl, rfl⟩))
        go_ret2
        obtain ⟨r1, r2, r3⟩ := HD.out
        exact ⟨rfl, r2, _, _, r1, r3⟩

/-- what Alloc answers, and what is laid -/
def allocErr (S : St) (t m : Int) : Int :=
  if (t < 0 ∨ 199 < t) ∧ t ≠ 200 ∧ t ≠ 202 then 1 else if m < 0 ∨ 4096 < m then 2 else if (S.base : Int) + (S.n : Int) < (S.top : Int) + m + 1 then 10 else 0

def St.lay (S : St) (t m : Int) : St := if allocErr S t m = 0 then S.alloc t.toNat m.toNat else S
def layWord (S : St) (t m : Int) : Int := if allocErr S t m = 0 then 2 * ((S.top : Int) + 1) else 0

theorem allocErr_zero {S : St} {t m : Int} (h : allocErr S t m = 0) : 0 ≤ t ∧ tagOk t.toNat ∧ 0 ≤ m ∧ m ≤ 4096 ∧ (S.top : Int) + m + 1 ≤ (S.base : Int) + (S.n : Int) := by
  unfold allocErr at h
  split at h
  · cases h
  · split at h
    · cases h
    · split at h
      · cases h
      · unfold tagOk; omega

set_option maxHeartbeats 2000000 in
set_option maxRecDepth 100000 in
theorem alloc_bad (H : AM w p h c sv cs S) (t m : Int) (he : allocErr S t m ≠ 0) (ht : -9223372036854775808 ≤ t ∧ t ≤ 9223372036854775807) :
    Calls Try.prog 52 #[.pointer (some ⟨p, 0, none⟩), .int .i64 t, .int .i64 m] w fun e w' => e = .returned (.tuple #[.int .u64 0, .int .i64 (allocErr S t m)]) ∧ ∃ n, w' = w.drewN n := by
  obtain ⟨f1, f2, f3, f4, f5, f6⟩ := H.fields
  have hn : S.n ≤ 32768 := H.ok.n3
  have hbn : S.base ≤ S.n := by unfold St.base; have h7 : S.n * S.up ≤ S.n * 1 := Nat.mul_le_mul_left _ H.ok.up; omega
  have htop : S.top ≤ 2 * S.n := by have := H.ok.fit; unfold St.top; omega
  by_cases k1 : (t < 0 ∨ 199 < t) ∧ t ≠ 200 ∧ t ≠ 202
  · have e1 : allocErr S t m = 1 := if_pos k1
    rw [e1]
    clear e1 he f1 f2 f3 f4 f5 f6
    have c2 : (t != 200) = true := by rw [bne_iff_ne]; exact k1.2.1
    have c3 : (t != 202) = true := by rw [bne_iff_ne]; exact k1.2.2
    by_cases k2 : t < 0
    · have c1 : decide (t < 0) = true := decide_eq_true k2
      clear k1
      go_enter Try.func52, Try.ntmps52
      go_wp2
      go_ret2
      exact ⟨rfl, 0, rfl⟩
    · have c1 : decide (t < 0) = false := decide_eq_false k2
      have c4 : decide (199 < t) = true := decide_eq_true (by omega)
      clear k1
      go_enter Try.func52, Try.ntmps52
      go_wp2
      go_ret2
      exact ⟨rfl, 0, rfl⟩
  · have htag : 0 ≤ t ∧ (t ≤ 199 ∨ t = 200 ∨ t = 202) := by omega
    have c0 : decide (t < 0) = false := decide_eq_false (by omega)
    by_cases k3 : m < 0 ∨ 4096 < m
    · have e1 : allocErr S t m = 2 := by unfold allocErr; rw [if_neg k1, if_pos k3]
      rw [e1]
      clear e1 he f1 f2 f3 f4 f5 f6 k1
      obtain ⟨_, ht'⟩ := htag
      have c5 : (decide (m < 0) = true) ∨ (decide (m < 0) = false ∧ decide (4096 < m) = true) := by
        rcases Int.lt_or_le m 0 with h | h
        · exact .inl (decide_eq_true h)
        · exact .inr ⟨decide_eq_false (by omega), decide_eq_true (by omega)⟩
      clear k3
      rcases ht' with ht' | ht' | ht'
      case' inl => have c1 : decide (199 < t) = false := decide_eq_false (by omega)
      case' inr.inl =>
        have c1 : decide (199 < t) = true := decide_eq_true (by omega)
        have c2 : (t != 200) = false := by rw [bne_eq_false_iff_eq]; omega
      case' inr.inr =>
        have c1 : decide (199 < t) = true := decide_eq_true (by omega)
        have c2 : (t != 200) = true := by rw [bne_iff_ne]; omega
        have c3 : (t != 202) = false := by rw [bne_eq_false_iff_eq]; omega
      all_goals
        clear ht'
        rcases c5 with c5 | ⟨c5, c6⟩
        all_goals
          go_enter Try.func52, Try.ntmps52
          go_wp2
          go_ret2
          exact ⟨rfl, 0, rfl⟩
    · have k4 : (S.base : Int) + (S.n : Int) < (S.top : Int) + m + 1 := by
        apply Classical.byContradiction
        intro hk
        exact he (by unfold allocErr; rw [if_neg k1, if_neg k3, if_neg hk])
      have e1 : allocErr S t m = 10 := by unfold allocErr; rw [if_neg k1, if_neg k3, if_pos k4]
      rw [e1]
      clear e1 he k1
      have c5 : decide (m < 0) = false := decide_eq_false (by omega)
      have c6 : decide (4096 < m) = false := decide_eq_false (by omega)
      have c7 : decide ((S.base : Int) + (S.n : Int) < (S.top : Int) + m + 1) = true := decide_eq_true k4
      obtain ⟨_, ht'⟩ := htag
      rcases ht' with ht' | ht' | ht'
      case' inl => have c1 : decide (199 < t) = false := decide_eq_false (by omega)
      case' inr.inl =>
        have c1 : decide (199 < t) = true := decide_eq_true (by omega)
        have c2 : (t != 200) = false := by rw [bne_eq_false_iff_eq]; omega
      case' inr.inr =>
        have c1 : decide (199 < t) = true := decide_eq_true (by omega)
        have c2 : (t != 200) = true := by rw [bne_iff_ne]; omega
        have c3 : (t != 202) = false := by rw [bne_eq_false_iff_eq]; omega
      all_goals
        clear ht'
        go_enter Try.func52, Try.ntmps52
        go_wp2
        go_quiet (fail)
        go_wp2
        go_ret2
        exact ⟨rfl, _, rfl⟩

/-- Alloc, whatever is asked -/
theorem alloc_am (H : AM w p h c sv cs S) (t m : Int) (ht : -9223372036854775808 ≤ t ∧ t ≤ 9223372036854775807) :
    Calls Try.prog 52 #[.pointer (some ⟨p, 0, none⟩), .int .i64 t, .int .i64 m] w fun e w' =>
      e = .returned (.tuple #[.int .u64 (layWord S t m), .int .i64 (allocErr S t m)]) ∧ Chg (foot p h c sv) w w' ∧ ∃ sv' ds, AM w' p h c sv' ds (S.lay t m) ∧ (sv'.ownBlock = sv.ownBlock ∨ ∃ k, sv'.ownBlock = some k ∧ w.heap.size ≤ k) := by
  by_cases he : allocErr S t m = 0
  · obtain ⟨h1, h2, h3, h4, h5⟩ := allocErr_zero he
    unfold layWord St.lay
    rw [if_pos he, if_pos he, he]
    obtain ⟨a, rfl⟩ := Int.eq_ofNat_of_zero_le h1
    obtain ⟨b, rfl⟩ := Int.eq_ofNat_of_zero_le h3
    exact alloc_walk H a b h2 (by omega) h5
  · unfold layWord St.lay
    rw [if_neg he, if_neg he]
    exact (alloc_bad H t m he ht).mono fun e w' ⟨h1, n, h2⟩ => ⟨h1, h2 ▸ (Chg.refl _ _).drewN n, sv, cs, h2 ▸ H.drewN n, .inl rfl⟩
end

end Go.Proofs.Ytleoedjjepkhgaa
