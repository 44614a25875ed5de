import Derived.Test.YtleoedjjepkhgaaRmem
import Derived.Test.YtleoedjjepkhgaaDoReal
/- Who plays: the reference's Mem. -/
namespace Go.Proofs.Ytleoedjjepkhgaa
open Go.RowKit

/-- at K lies the reference's Mem over the arena at q, in the blocks F -/
def IM (K q : Nat) : MemI := fun w F S k => ∃ lv fv, RM w q lv fv S ∧ MemR w K q k ∧ F = K :: rfoot q lv fv S.L.length

theorem IM.keep {K q : Nat} {F G : List Nat} {w w' : World} {S : St} {k : Nat} (H : IM K q w F S k) (hc : Chg G w w') (hG : ∀ b ∈ F, b ∉ G) : IM K q w' F S k := by
  obtain ⟨lv, fv, HA, HM, rfl⟩ := H
  exact ⟨lv, fv, HA.chg hc (fun b hb => hG b (List.mem_cons_of_mem _ hb)), hc.get HM (hG K (by simp)), rfl⟩

theorem IM.lts {K q : Nat} {F : List Nat} {w : World} {S : St} {k : Nat} (H : IM K q w F S k) : ∀ b ∈ F, b < w.heap.size := by
  obtain ⟨lv, fv, HA, HM, rfl⟩ := H
  intro b hb
  rw [List.mem_cons] at hb
  rcases hb with rfl | hb
  · exact lt_of_heap HM
  · exact HA.lts b hb

theorem rcons {K : Nat} {F F' : List Nat} {B : Nat} (h : ∀ b ∈ F', b ∈ F ∨ B ≤ b) : ∀ b ∈ K :: F', b ∈ K :: F ∨ B ≤ b := by
  intro b hb
  rw [List.mem_cons] at hb
  rcases hb with rfl | hb
  · exact .inl (by simp)
  · exact (h b hb).imp (fun h => List.mem_cons_of_mem _ h) id

theorem rmalloc_am {w : World} {K q : Nat} {F : List Nat} {S : St} {k : Nat} (t m : Int) (g cap : Nat) (roots : List Int) (HI : IM K q w F S k) (hk : k < 1000)
    (hr : w.ownsRow 0 49 1 (.slice (some ⟨g, 0, none⟩) roots.length cap) roots.length (words roots)) (hrl : roots.length ≤ 1000000) (hw : ∀ x ∈ roots, Wd x) (hsep : g ∉ F) :
    Calls Try.prog 41 #[.pointer (some ⟨K, 0, none⟩), .int .i64 t, .int .i64 m, .slice (some ⟨g, 0, none⟩) roots.length cap] w (LaidPost (IM K q) F w S k t m roots) := by
  obtain ⟨lv, fv, HA, HM, rfl⟩ := HI
  have hsep0 : g ∉ rfoot q lv fv S.L.length := fun h => hsep (List.mem_cons_of_mem _ h)
  have hsep' : ∀ b, (Value.slice (some ⟨g, 0, none⟩) roots.length cap).ownBlock = some b → b ∉ K :: rfoot q lv fv S.L.length := by
    intro b hb
    have e : g = b := by simpa [Value.ownBlock] using hb
    subst e
    exact hsep
  have hsub : ∀ b ∈ rfoot q lv fv S.L.length, b ∈ K :: rfoot q lv fv S.L.length := fun b hb => List.mem_cons_of_mem _ hb
  have hKl := lt_of_heap HM
  by_cases h0 : allocErr S t m = 0
  · have e : memAlloc S t m roots = ⟨layWord S t m, some roots, 0, S.lay t m, 0⟩ := by unfold memAlloc; rw [if_pos h0]
    refine (rmalloc_room HM HA t m g cap roots hr hrl hsep0 h0).mono ?_
    rintro e' w' ⟨v, lv', fv', rfl, hc, hm, ha, hs, ho, hx⟩
    obtain ⟨va, vc, rfl⟩ := ownsRow_slice ho
    unfold LaidPost
    rw [e]
    refine ⟨va, _, vc, K :: rfoot q lv' fv' (S.lay t m).L.length, rfl, hc.mono hsub, ⟨lv', fv', ha, hm, rfl⟩, rcons hs, fun l hl => (by cases hl; exact ho), fun b hb => ⟨fun hin => ?_, (ho.lt b hb).1⟩⟩
    rw [List.mem_cons] at hin
    rcases hin with rfl | hin
    · have := (ho.lt _ hb).1; omega
    · exact hx b hb hin
  · by_cases h1 : allocErr S t m ≠ 10
    · have e : memAlloc S t m roots = ⟨0, none, allocErr S t m, S, 0⟩ := by unfold memAlloc; rw [if_neg h0, if_pos h1]
      refine (rmalloc_bad HM HA t m _ _ cap h0 h1).mono ?_
      rintro e' w' ⟨lv', fv', rfl, hc, hm, ha, hs⟩
      unfold LaidPost
      rw [e]
      exact ⟨none, 0, 0, K :: rfoot q lv' fv' S.L.length, rfl, hc.mono hsub, ⟨lv', fv', ha, hm, rfl⟩, rcons hs, (fun l hl => by cases hl), fun b hb => by simp [Value.ownBlock] at hb⟩
    · have h10 : allocErr S t m = 10 := by omega
      by_cases h2 : (S.n : Int) < (S.cells roots : Int) + m + 1
      · have e : memAlloc S t m roots = ⟨0, none, 10, S, 0⟩ := by unfold memAlloc; rw [if_neg h0, if_neg h1, if_pos h2]
        refine (rmalloc_full HM HA t m _ roots hr hrl hw (fun b hb hm => hsep' b hb (hsub b hm)) h10 h2).mono ?_
        rintro e' w' ⟨lv', fv', rfl, hc, hm, ha, hs⟩
        unfold LaidPost
        rw [e]
        exact ⟨none, 0, 0, K :: rfoot q lv' fv' S.L.length, rfl, hc.mono hsub, ⟨lv', fv', ha, hm, rfl⟩, rcons hs, (fun l hl => by cases hl), fun b hb => by simp [Value.ownBlock] at hb⟩
      · have e : memAlloc S t m roots = ⟨layWord (S.coll roots) t m, some (S.now roots), allocErr (S.coll roots) t m, (S.coll roots).lay t m, 1⟩ := by unfold memAlloc; rw [if_neg h0, if_neg h1, if_neg h2]
        have hnl : (S.now roots).length = roots.length := by unfold St.now; rw [List.length_map]
        refine (rmalloc_again HM ⟨by omega, by omega⟩ HA t m _ roots hr hrl hw hsep' h10 h2).mono ?_
        rintro e' w' ⟨v, lv', fv', rfl, hc, hm, ha, hs, ho, hx⟩
        obtain ⟨va, vc, rfl⟩ := ownsRow_slice ho
        unfold LaidPost
        rw [e]
        refine ⟨va, _, vc, K :: rfoot q lv' fv' ((S.coll roots).lay t m).L.length, rfl, hc, ⟨lv', fv', ha, hm, rfl⟩, rcons hs, fun l hl => (by cases hl; rw [hnl]; exact ho), fun b hb => ⟨fun hin => ?_, (ho.lt b hb).1⟩⟩
        rw [List.mem_cons] at hin
        rcases hin with rfl | hin
        · have := (ho.lt _ hb).1; omega
        · exact hx b hb hin

theorem model_doer (K q : Nat) : Doer (IM K q) 41 42 43 44 45 #[.pointer (some ⟨K, 0, none⟩)] #[] #[.pointer (some ⟨K, 0, none⟩)] #[.pointer (some ⟨q, 0, none⟩)] where
  keep := fun H hc hG => H.keep hc hG
  lts := fun H => H.lts
  ok := fun H => by obtain ⟨lv, fv, HA, HM, rfl⟩ := H; exact ⟨HA.ok, HA.blks⟩
  eA := enter_of Try.func41 (by kernel_rfl) rfl
  eF := enter_of Try.func42 (by kernel_rfl) rfl
  eG := enter_of Try.func43 (by kernel_rfl) rfl
  eS := enter_of Try.func44 (by kernel_rfl) rfl
  eZ := enter_of Try.func45 (by kernel_rfl) rfl
  alloc := fun t m a c roots HI hk _ _ hr hrl hw hsep ha => by
    obtain ⟨g, rfl⟩ := ha
    exact rmalloc_am t m g c roots HI hk hr hrl hw (hsep g rfl)
  force := fun {_ _ S _} a c roots HI hk hr hrl hw hsep => by
    obtain ⟨lv, fv, HA, HM, rfl⟩ := HI
    refine (rmforce_am HM ⟨by omega, by omega⟩ HA _ roots hr (fun e => hsep K e (by simp)) hw hrl).mono ?_
    rintro e' w' ⟨v, lv', fv', rfl, hc, hm, ha, ho, hs, hx⟩
    obtain ⟨va, vc, rfl⟩ := ownsRow_slice ho
    refine ⟨va, vc, K :: rfoot q lv' fv' (S.coll roots).L.length, rfl, hc, ⟨lv', fv', ha, hm, rfl⟩, rcons (fun b hb => (hs b hb).imp (fun e => by subst e; simp [rfoot]) id), ho, fun b hb hin => ?_⟩
    have hKl := lt_of_heap HM
    rw [List.mem_cons] at hin
    rcases hin with rfl | hin
    · have := (ho.lt _ hb).1; omega
    · exact hx b hb hin
  get := fun x i HI hx => by obtain ⟨lv, fv, HA, HM, rfl⟩ := HI; exact rget_am HA x i hx.1 hx.2
  size := fun x HI hx => by obtain ⟨lv, fv, HA, HM, rfl⟩ := HI; exact rsize_am HA x hx.1 hx.2
  set := fun {_ _ S _} x i v HI hx hv => by
    obtain ⟨lv, fv, HA, HM, rfl⟩ := HI
    refine (rset_am HA x i v hx.1 hx.2 hv).mono ?_
    rintro e' w' ⟨rfl, hc, lv', fv', ha, hs⟩
    have hne := rmem_ne HM HA
    exact ⟨K :: rfoot q lv' fv' (S.set x i v).1.L.length, rfl, hc.mono (by intro b hb; simp [hb]), ⟨lv', fv', ha, hc.get HM (fun hin => hne K hin rfl), rfl⟩, rcons hs⟩

set_option maxHeartbeats 2000000 in
set_option maxRecDepth 100000 in
theorem model_am {w : World} {K q : Nat} {k : Int} (H : MemR w K q k) :
    Calls Try.prog 18 #[.pointer (some ⟨K, 0, none⟩)] w fun e w' =>
      e = .returned (.agg #[.func (.func 41) #[.pointer (some ⟨K, 0, none⟩)] #[], .func (.func 42) #[.pointer (some ⟨K, 0, none⟩)] #[], .func (.func 43) #[.pointer (some ⟨q, 0, none⟩)] #[],
        .func (.func 44) #[.pointer (some ⟨q, 0, none⟩)] #[], .func (.func 45) #[.pointer (some ⟨q, 0, none⟩)] #[]]) ∧ Chg [] w w' := by
  have hc0 : Chg [] w (w.alloc (.cells #[.nilFunc, .nilFunc, .nilFunc, .nilFunc, .nilFunc] 38)) := (Chg.refl [] w).alloc _
  have h1 := hc0.get H (by simp)
  have k0 := cell_at h1 (o := 0) rfl
  have hD := heap_alloc_new w (.cells #[.nilFunc, .nilFunc, .nilFunc, .nilFunc, .nilFunc] 38)
  clear H h1
  go_enter Try.func18, Try.ntmps18
  go_upto_region 1 with fail
  refine region_quiet_tail 20 (by kernel_rfl) (by kernel_rfl) ?_
  simp only [List.take_succ_cons, List.take_zero, List.drop_succ_cons, List.drop_zero]
  repeat go_big_quiet_step (fail)
  refine wpQuiet_nil ?_
  intro m
  go_wp2_with fail
  have r0 : ((w.alloc (.cells #[.nilFunc, .nilFunc, .nilFunc, .nilFunc, .nilFunc] 38)).drewN m).heap[w.heap.size]? = some (.cells #[.nilFunc, .nilFunc, .nilFunc, .nilFunc, .nilFunc] 38 (0, 0)) := hD
  have r1 := heap_set (o := 0) r0 (.func (.func 41) #[.pointer (some ⟨K, 0, none⟩)] #[])
  have r2 := heap_set (o := 1) r1 (.func (.func 42) #[.pointer (some ⟨K, 0, none⟩)] #[])
  have r3 := heap_set (o := 2) r2 (.func (.func 43) #[.pointer (some ⟨q, 0, none⟩)] #[])
  have r4 := heap_set (o := 3) r3 (.func (.func 44) #[.pointer (some ⟨q, 0, none⟩)] #[])
  have r5 := heap_set (o := 4) r4 (.func (.func 45) #[.pointer (some ⟨q, 0, none⟩)] #[])
  have q0 := cell_at r5 (o := 0) (v := .func (.func 41) #[.pointer (some ⟨K, 0, none⟩)] #[]) rfl
  have q1 := cell_at r5 (o := 1) (v := .func (.func 42) #[.pointer (some ⟨K, 0, none⟩)] #[]) rfl
  have q2 := cell_at r5 (o := 2) (v := .func (.func 43) #[.pointer (some ⟨q, 0, none⟩)] #[]) rfl
  have q3 := cell_at r5 (o := 3) (v := .func (.func 44) #[.pointer (some ⟨q, 0, none⟩)] #[]) rfl
  have q4 := cell_at r5 (o := 4) (v := .func (.func 45) #[.pointer (some ⟨q, 0, none⟩)] #[]) rfl
  have hch := (((((hc0.drewN m).set (b := w.heap.size) (o := 0) (.func (.func 41) #[.pointer (some ⟨K, 0, none⟩)] #[]) (.inr (Nat.le_refl _))).set (b := w.heap.size) (o := 1) (.func (.func 42) #[.pointer (some ⟨K, 0, none⟩)] #[]) (.inr (Nat.le_refl _))).set (b := w.heap.size) (o := 2) (.func (.func 43) #[.pointer (some ⟨q, 0, none⟩)] #[]) (.inr (Nat.le_refl _))).set (b := w.heap.size) (o := 3) (.func (.func 44) #[.pointer (some ⟨q, 0, none⟩)] #[]) (.inr (Nat.le_refl _))).set (b := w.heap.size) (o := 4) (.func (.func 45) #[.pointer (some ⟨q, 0, none⟩)] #[]) (.inr (Nat.le_refl _))
  exact bodyPost_ret (v := .agg #[.func (.func 41) #[.pointer (some ⟨K, 0, none⟩)] #[], .func (.func 42) #[.pointer (some ⟨K, 0, none⟩)] #[], .func (.func 43) #[.pointer (some ⟨q, 0, none⟩)] #[], .func (.func 44) #[.pointer (some ⟨q, 0, none⟩)] #[], .func (.func 45) #[.pointer (some ⟨q, 0, none⟩)] #[]]) (by simp [results, Try.results18, go_sem, q0, q1, q2, q3, q4]) rfl ⟨rfl, hch⟩

end Go.Proofs.Ytleoedjjepkhgaa
