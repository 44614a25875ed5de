import Derived.Test.YtleoedjjepkhgaaPlayV
import Derived.Test.YtleoedjjepkhgaaMagain
/- Who plays: the program's Mem. -/
namespace Go.Proofs.Ytleoedjjepkhgaa
open Go.RowKit

/-- at M lies the program's Mem over the arena at p, in the blocks F -/
def IR (M p : Nat) : MemI := fun w F S k => ∃ h c sv cs, AM w p h c sv cs S ∧ MemAt w M p k ∧ F = M :: foot p h c sv

theorem row_apart {w w' : World} {M p h c : Nat} {sv sv' v : Value} {cs ds : List Int} {S S' : St} {n : Nat} {xs : List Value} {k : Int} (HM : MemAt w M p k) (H : AM w p h c sv cs S) (H' : AM w' p h c sv' ds S') (hr : w'.ownsRow w.heap.size 49 1 v n xs) :
    ∀ b, v.ownBlock = some b → b ∉ M :: foot p h c sv' := by
  intro b hb hin
  have h6 := (hr.lt b hb).1
  have hL := H.lts
  have hM := lt_of_heap HM
  unfold foot at hin
  simp only [List.mem_cons, Option.mem_toList] at hin
  rcases hin with rfl | rfl | rfl | rfl | hin
  · omega
  · have := hL b (by simp [foot]); omega
  · have := hL b (by simp [foot]); omega
  · have := hL b (by simp [foot]); omega
  · exact own_two H'.starts hr (by decide) hin hb

theorem foot_new {p h c B : Nat} {sv sv' : Value} (hs : sv'.ownBlock = sv.ownBlock ∨ ∃ b, sv'.ownBlock = some b ∧ B ≤ b) (M : Nat) : ∀ b ∈ M :: foot p h c sv', b ∈ M :: foot p h c sv ∨ B ≤ b := by
  intro b hb
  unfold foot at hb ⊢
  simp only [List.mem_cons, Option.mem_toList] at hb ⊢
  rcases hb with rfl | rfl | rfl | rfl | hb
  · exact .inl (.inl rfl)
  · exact .inl (.inr (.inl rfl))
  · exact .inl (.inr (.inr (.inl rfl)))
  · exact .inl (.inr (.inr (.inr (.inl rfl))))
  · rcases hs with e | ⟨b2, e, hb2⟩
    · exact .inl (.inr (.inr (.inr (.inr (e ▸ hb)))))
    · rw [e] at hb; cases hb; exact .inr hb2

theorem foot_new2 {p h c B : Nat} {sv sv' : Value} (hs : ∀ b, sv'.ownBlock = some b → b ∈ foot p h c sv ∨ B ≤ b) (M : Nat) : ∀ b ∈ M :: foot p h c sv', b ∈ M :: foot p h c sv ∨ B ≤ b := by
  intro b hb
  unfold foot at hb
  simp only [List.mem_cons, Option.mem_toList] at hb
  rcases hb with rfl | rfl | rfl | rfl | hb
  · exact .inl (by simp)
  · exact .inl (by simp [foot])
  · exact .inl (by simp [foot])
  · exact .inl (by simp [foot])
  · rcases hs b hb with h5 | h5
    · exact .inl (List.mem_cons_of_mem _ h5)
    · exact .inr h5

theorem lay_no {S : St} {t m : Int} (h : allocErr S t m ≠ 0) : layWord S t m = 0 := by unfold layWord; rw [if_neg h]

theorem malloc_am {w : World} {M p : Nat} {F : List Nat} {S : St} {k : Nat} (t m : Int) (a : Option Addr) (cap : Nat) (roots : List Int) (HI : IR M p w F S k) (hk : k < 1000) (ht : -9223372036854775808 ≤ t ∧ t ≤ 9223372036854775807)
    (hr : w.ownsRow 0 49 1 (.slice a roots.length cap) roots.length (words roots)) (hrl : roots.length ≤ 1000000) (hw : ∀ x ∈ roots, Wd x) (hsep : ∀ b, (Value.slice a roots.length cap).ownBlock = some b → b ∉ F) :
    Calls Try.prog 28 #[.pointer (some ⟨M, 0, none⟩), .int .i64 t, .int .i64 m, .slice a roots.length cap] w (LaidPost (IR M p) F w S k t m roots) := by
  obtain ⟨h, c, sv, cs, HA, HM, rfl⟩ := HI
  have hsep' : ∀ b, (Value.slice a roots.length cap).ownBlock = some b → b ∉ foot p h c sv := fun b hb hm => hsep b hb (List.mem_cons_of_mem _ hm)
  have hsub : ∀ b ∈ foot p h c sv, b ∈ M :: foot p h c sv := fun b hb => List.mem_cons_of_mem _ hb
  by_cases h0 : allocErr S t m = 0
  · have e : memAlloc S t m roots = ⟨layWord S t m, some roots, 0, S.lay t m, 0⟩ := by unfold memAlloc; rw [if_pos h0]
    refine (malloc_room HM HA t m ht _ roots hr hrl hsep' h0).mono ?_
    rintro e' w' ⟨v, rfl, hc, hm, ⟨sv', ds, ha, hs⟩, ho⟩
    obtain ⟨va, vc, rfl⟩ := ownsRow_slice ho
    unfold LaidPost
    rw [e]
    exact ⟨va, _, vc, M :: foot p h c sv', rfl, hc.mono hsub, ⟨h, c, sv', ds, ha, hm, rfl⟩, foot_new hs M, fun l hl => (by cases hl; exact ho), fun b hb => ⟨row_apart HM HA ha ho b hb, (ho.lt b hb).1⟩⟩
  · by_cases h1 : allocErr S t m ≠ 10
    · have e : memAlloc S t m roots = ⟨0, none, allocErr S t m, S, 0⟩ := by unfold memAlloc; rw [if_neg h0, if_pos h1]
      refine (malloc_bad HM HA t m ht a _ cap h0 h1).mono ?_
      rintro e' w' ⟨rfl, hc, hm, ⟨sv', ds, ha, hs⟩⟩
      unfold LaidPost
      rw [e]
      exact ⟨none, 0, 0, M :: foot p h c sv', rfl, hc.mono hsub, ⟨h, c, sv', ds, ha, hm, rfl⟩, foot_new hs M, (fun l hl => by cases hl), fun b hb => by simp [Value.ownBlock] at hb⟩
    · have h10 : allocErr S t m = 10 := by omega
      by_cases h2 : (S.n : Int) < (S.cells roots : Int) + m + 1
      · have e : memAlloc S t m roots = ⟨0, none, 10, S, 0⟩ := by unfold memAlloc; rw [if_neg h0, if_neg h1, if_pos h2]
        refine (malloc_full HM HA t m ht _ roots hr hrl hw hsep' h10 h2).mono ?_
        rintro e' w' ⟨rfl, hc, hm, ⟨sv', ds, ha, hs⟩⟩
        unfold LaidPost
        rw [e]
        exact ⟨none, 0, 0, M :: foot p h c sv', rfl, hc.mono hsub, ⟨h, c, sv', ds, ha, hm, rfl⟩, foot_new hs M, (fun l hl => by cases hl), fun b hb => by simp [Value.ownBlock] at hb⟩
      · have e : memAlloc S t m roots = ⟨layWord (S.coll roots) t m, some (S.now roots), allocErr (S.coll roots) t m, (S.coll roots).lay t m, 1⟩ := by unfold memAlloc; rw [if_neg h0, if_neg h1, if_neg h2]
        have hnl : (S.now roots).length = roots.length := by unfold St.now; rw [List.length_map]
        refine (malloc_again HM ⟨by omega, by omega⟩ HA t m ht _ roots hr hrl hw hsep' h10 h2).mono ?_
        rintro e' w' ⟨v, rfl, hc, hm, ⟨sv', ds, ha, hs⟩, ho⟩
        obtain ⟨va, vc, rfl⟩ := ownsRow_slice ho
        unfold LaidPost
        rw [e]
        exact ⟨va, _, vc, M :: foot p h c sv', rfl, hc, ⟨h, c, sv', ds, ha, hm, rfl⟩, foot_new2 hs M, fun l hl => (by cases hl; rw [hnl]; exact ho), fun b hb => ⟨row_apart HM HA ha ho b hb, (ho.lt b hb).1⟩⟩

theorem do_force {w : World} {M p : Nat} {F : List Nat} {S : St} {k : Nat} (a : Option Addr) (cap : Nat) (roots : List Int) (HI : IR M p w F S k) (hk : k < 1000)
    (hr : w.ownsRow 0 49 1 (.slice a roots.length cap) roots.length (words roots)) (hrl : roots.length ≤ 1000000) (hw : ∀ x ∈ roots, Wd x) :
    Calls Try.prog 33 #[.pointer (some ⟨M, 0, none⟩), .slice a roots.length cap] w (ForcedPost (IR M p) F w S k roots) := by
  obtain ⟨h, c, sv, cs, HA, HM, rfl⟩ := HI
  refine (mforce_am HM ⟨by omega, by omega⟩ HA _ roots hr hw hrl).mono ?_
  rintro e' w' ⟨v, rfl, hc, hm, ⟨sv', ds, ha, hs⟩, ho⟩
  obtain ⟨va, vc, rfl⟩ := ownsRow_slice ho
  exact ⟨va, vc, M :: foot p h c sv', rfl, hc, ⟨h, c, sv', ds, ha, hm, rfl⟩, foot_new2 hs M, ho, row_apart HM HA ha ho⟩

theorem do_set {w : World} {M p : Nat} {F : List Nat} {S : St} {k : Nat} (x i v : Int) (HI : IR M p w F S k) (hx : Wd x) (hv : Wd v) :
    Calls Try.prog 34 #[.pointer (some ⟨p, 0, none⟩), .int .u64 x, .int .i64 i, .int .u64 v] w (SetPost (IR M p) F w S k x i v) := by
  obtain ⟨h, c, sv, cs, HA, HM, rfl⟩ := HI
  refine (set_am HA x i v hx.1 hx.2 hv).mono ?_
  rintro e' w' ⟨rfl, hc, ds, ha⟩
  have hne := mem_ne HM HA
  exact ⟨M :: foot p h c sv, rfl, hc.mono (by intro b hb; simp at hb; subst hb; simp [foot]), ⟨h, c, sv, ds, ha, hc.get HM (by intro hin; simp at hin; exact hne c (by simp [foot]) hin.symm), rfl⟩, fun b hb => .inl hb⟩

theorem IR.keep {M p : Nat} {F G : List Nat} {w w' : World} {S : St} {k : Nat} (H : IR M p w F S k) (hc : Chg G w w') (hG : ∀ b ∈ F, b ∉ G) : IR M p w' F S k := by
  obtain ⟨h, c, sv, cs, HA, HM, rfl⟩ := H
  exact ⟨h, c, sv, cs, HA.chg hc (fun b hb => hG b (List.mem_cons_of_mem _ hb)), hc.get HM (hG M (by simp)), rfl⟩

theorem IR.lts {M p : Nat} {F : List Nat} {w : World} {S : St} {k : Nat} (H : IR M p w F S k) : ∀ b ∈ F, b < w.heap.size := by
  obtain ⟨h, c, sv, cs, HA, HM, rfl⟩ := H
  intro b hb
  rw [List.mem_cons] at hb
  rcases hb with rfl | hb
  · exact lt_of_heap HM
  · exact HA.lts b hb

theorem enter_of {f : FuncId} {fn : Func} {c : Code} (hf : Try.prog.funcs[f]? = some fn) (hname : (fn.name == "runtime.NumGoroutine") = false) (hb : fn.body = some c) (args : Array Value) (w : World) :
    (callFunc f args).run Try.prog w = .ok (.enter f args) w := by
  have h1 : ¬ fn.name = "runtime.NumGoroutine" := by intro h; rw [h] at hname; simp at hname
  simp [callFunc, hf, h1, hb]

theorem real_doer (M p : Nat) : Doer (IR M p) 28 33 27 34 26 #[.pointer (some ⟨M, 0, none⟩)] #[] #[.pointer (some ⟨M, 0, none⟩)] #[.pointer (some ⟨p, 0, none⟩)] where
  keep := fun H hc hG => H.keep hc hG
  lts := fun H => H.lts
  ok := fun H => by obtain ⟨h, c, sv, cs, HA, HM, rfl⟩ := H; exact ⟨HA.ok, HA.blks⟩
  eA := enter_of Try.func28 (by kernel_rfl) rfl
  eF := enter_of Try.func33 (by kernel_rfl) rfl
  eG := enter_of Try.func27 (by kernel_rfl) rfl
  eS := enter_of Try.func34 (by kernel_rfl) rfl
  eZ := enter_of Try.func26 (by kernel_rfl) rfl
  alloc := fun t m a c roots HI hk ht _ hr hrl hw hsep _ => malloc_am t m a c roots HI hk ht hr hrl hw hsep
  force := fun a c roots HI hk hr hrl hw _ => do_force a c roots HI hk hr hrl hw
  get := fun x i HI hx => by obtain ⟨h, c, sv, cs, HA, HM, rfl⟩ := HI; exact get_am HA x i hx.1 hx.2
  size := fun x HI hx => by obtain ⟨h, c, sv, cs, HA, HM, rfl⟩ := HI; exact size_am HA x hx.1 hx.2
  set := fun x i v HI hx hv => do_set x i v HI hx hv

end Go.Proofs.Ytleoedjjepkhgaa
