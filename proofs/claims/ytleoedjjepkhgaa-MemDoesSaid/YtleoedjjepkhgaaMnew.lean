import Derived.Test.YtleoedjjepkhgaaMeet
import Derived.Deep.CutRange
/- mem.New and (*Mem).Arena, Count. -/
namespace Go.Proofs.Ytleoedjjepkhgaa
open Go.RowKit

@[go_sem] theorem run_store_func (P : Program) (w : World) (a : Addr) (m : Mode) (f : Fn) (x y : Array Value) : (store a (.func f x y) m).run P w = stored P w a (.func f x y) m := run_store P w a _ m rfl

/-- at M lies a Mem whose arena lies at p, and that has counted k collections -/
def MemAt (w : World) (M p : Nat) (k : Int) : Prop :=
  w.heap[M]? = some (.cells #[.pointer (some ⟨p, 0, none⟩), .int .i64 k, .func (.func 30) #[.pointer (some ⟨M, 0, none⟩)] #[]] 77 (0, 0))

set_option maxHeartbeats 4000000 in
set_option maxRecDepth 100000 in
theorem mnew_in (n : Nat) (h1 : 2 ≤ n) (h2 : n ≤ 32768) (w : World) :
    Calls Try.prog 8 #[.int .i64 n] w fun e w' => ∃ M p h c cs, e = .returned (.pointer (some ⟨M, 0, none⟩)) ∧ Chg [] w w' ∧ MemAt w' M p 0 ∧ AM w' p h c (.slice none 0 0) cs (St.fresh n) ∧
      w.heap.size ≤ M ∧ w.heap.size ≤ p ∧ w.heap.size ≤ h ∧ w.heap.size ≤ c := by
  have HN := Lib.hid (new_in n h1 h2 w)
  go_enter Try.func8, Try.ntmps8
  go_wp2_with fail
  refine HN.out.mono ?_
  rintro e w1 ⟨p, h, c, cs, rfl, hc1, hm1, hp, hh, hcc⟩
  have HM1 := Lib.hid (And.intro hc1 (And.intro hm1 (And.intro hp (And.intro hh hcc))))
  have hsz := hc1.size
  clear hc1 hm1 hp hh hcc HN
  go_upto_region 5 with fail
  have hq := heap_alloc_new w1 (.cells #[.pointer (some ⟨p, 0, none⟩), .int .i64 0, .nilFunc] 77)
  have hc2 : Chg [] w1 (w1.alloc (.cells #[.pointer (some ⟨p, 0, none⟩), .int .i64 0, .nilFunc] 77)) := (Chg.refl [] w1).alloc _
  have HQ := Lib.hid hq
  have HC2 := Lib.hid hc2
  have k2 := cell_at hq (o := 2) (v := .nilFunc) rfl
  have z2 := free_at hq 2
  clear hq hc2
  generalize w1.alloc (.cells #[.pointer (some ⟨p, 0, none⟩), .int .i64 0, .nilFunc] 77) = w2 at HQ HC2 k2 z2 ⊢
  go_wp2_with fail
  go_ret
  obtain ⟨hc1, hm1, hp, hh, hcc⟩ := HM1.out
  have hc3 : Chg [] w1 (w2.setCell ⟨w1.heap.size, 2, none⟩ (.func (.func 30) #[.pointer (some ⟨w1.heap.size, 0, none⟩)] #[])) := HC2.out.set _ (.inr (Nat.le_refl _))
  exact ⟨_, p, h, c, cs, rfl, hc1.trans hc3, heap_set HQ.out _, hm1.chg hc3 (by simp), hsz, hp, hh, hcc⟩

set_option maxHeartbeats 4000000 in
set_option maxRecDepth 100000 in
theorem mnew_out (n : Int) (hn : n < 2 ∨ 32768 < n) (w : World) :
    Calls Try.prog 8 #[.int .i64 n] w fun e w' => e = .returned (.pointer none) ∧ w' = w := by
  have HN := Lib.hid (new_out n hn w)
  go_enter Try.func8, Try.ntmps8
  go_wp2_with fail
  refine HN.out.mono ?_
  rintro e w1 ⟨rfl, hw⟩
  obtain rfl := hw.symm
  go_wp2_with fail
  go_ret
  exact ⟨rfl, rfl⟩

theorem marena_am {w : World} {M p : Nat} {k : Int} (H : MemAt w M p k) :
    Calls Try.prog 14 #[.pointer (some ⟨M, 0, none⟩)] w fun e w' => e = .returned (.pointer (some ⟨p, 0, none⟩)) ∧ w' = w := by
  have k0 := cell_at H (o := 0) (v := .pointer (some ⟨p, 0, none⟩)) rfl
  go_enter Try.func14, Try.ntmps14
  go_wp2
  go_ret
  exact ⟨rfl, rfl⟩

theorem mcount_am {w : World} {M p : Nat} {k : Int} (H : MemAt w M p k) :
    Calls Try.prog 20 #[.pointer (some ⟨M, 0, none⟩)] w fun e w' => e = .returned (.int .i64 k) ∧ w' = w := by
  have k0 := cell_at H (o := 1) (v := .int .i64 k) rfl
  go_enter Try.func20, Try.ntmps20
  go_wp2
  go_ret
  exact ⟨rfl, rfl⟩

end Go.Proofs.Ytleoedjjepkhgaa
