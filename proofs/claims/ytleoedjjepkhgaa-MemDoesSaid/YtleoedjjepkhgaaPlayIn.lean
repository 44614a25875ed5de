import Derived.Test.YtleoedjjepkhgaaFrame
import Derived.Test.YtleoedjjepkhgaaGiven
import Derived.Test.YtleoedjjepkhgaaDoModel
import Derived.Test.YtleoedjjepkhgaaPlayW
import Derived.Test.YtleoedjjepkhgaaEq3
import Derived.Test.YtleoedjjepkhgaaSplit
/- The steps that came in, played by whichever doer; the reference's Mem among others. -/
namespace Go.Proofs.Ytleoedjjepkhgaa
open Go.RowKit

theorem fr_model (K q : Nat) : Fr (IM K q) := ⟨fun H hc hG => H.keep hc hG, fun H => H.lts⟩

/-- no row of errors lies in these blocks -/
def ErrsOut (I : MemI) : Prop := ∀ {w : World} {F : List Nat} {S : St} {k : Nat}, I w F S k → ∀ {base : Nat} {v : Value} {n : Nat} {xs : List Value}, w.ownsRow base 46 1 v n xs → ∀ b, v.ownBlock = some b → b ∉ F

theorem errsOut_real (M p : Nat) : ErrsOut (IR M p) := by
  intro w F S k hi base v n xs he b hb hm
  obtain ⟨h0, c0, sv, cs, ha0, hm0, rfl⟩ := hi
  rw [List.mem_cons] at hm
  rcases hm with rfl | hm
  · exact own_ne' he hm0 (by decide) hb
  · unfold foot at hm
    simp only [List.mem_cons, Option.mem_toList] at hm
    rcases hm with rfl | rfl | rfl | hm
    · exact own_ne' he ha0.a (by decide) hb
    · exact own_ne' he ha0.hv (by decide) hb
    · exact own_ne' he ha0.cc (by decide) hb
    · exact own_two ha0.starts he (by decide) hm hb

theorem errsOut_model (K q : Nat) : ErrsOut (IM K q) := by
  intro w F S k hi base v n xs he b hb hm
  obtain ⟨lv, fv, hr, hk, rfl⟩ := hi
  rw [List.mem_cons] at hm
  rcases hm with rfl | hm
  · exact own_ne' he hk (by decide) hb
  · unfold rfoot at hm
    simp only [List.mem_cons, List.mem_append, List.mem_flatMap, List.mem_range, Option.mem_toList] at hm
    rcases hm with rfl | hm | ⟨j, hj, hm⟩
    · exact own_ne' he hr.a (by decide) hb
    · exact own_two hr.row he (by decide) hm hb
    · exact own_two (hr.fvs j hj) he (by decide) hm hb

section
variable {W w : World} {ms : List MB} {rs : List Row}

theorem play_in {I : MemI} {FA FF FG FS FZ : Nat} {pre post rF rG : Array Value} (D : Doer I FA FF FG FS FZ pre post rF rG) (hO : ErrsOut I) {F : List Nat} {n : Nat} (A : Option Addr) (cap : Nat) (l : List Stp) (H : Many W w (⟨I, F, St.fresh n, 0⟩ :: ms) rs)
    (HR : RdS W A l) (hok : ∀ k, k < l.length → (stpAt l k).ok) (hlen : l.length ≤ 9223372036854775807) (forced : Bool) :
    Calls Try.prog 9 #[.agg #[.func (.func FA) pre post, .func (.func FF) rF #[], .func (.func FG) rG #[], .func (.func FS) rG #[], .func (.func FZ) rG #[]], .slice A l.length cap, .bool forced] w fun e w' =>
      ∃ ha hc ea ec F', e = .returned (.tuple #[.slice ha 8 hc, .slice ea (min l.length 80) ec]) ∧
        Many W w' (⟨I, F', (plK forced n l (min l.length 80)).st, (plK forced n l (min l.length 80)).count⟩ :: ms) (heldRow ha hc (plK forced n l (min l.length 80)) :: errsRow ea ec (erK forced n l (min l.length 80)) (min l.length 80) :: rs) ∧ Hld (plK forced n l (min l.length 80)) := by
  obtain ⟨h1, h2, h3⟩ := H.mems _ (List.mem_cons_self)
  refine (play_am D h1 A cap l (fun w' hc => HR.keep H.chg h2 hc) hok hlen forced).mono ?_
  rintro e w' ⟨hv, ev, F', rfl, hc, hi, hF, hh, hs, he, hld⟩
  obtain ⟨ha, hc', rfl⟩ := ownsRow_slice hh
  obtain ⟨ea, ec, rfl⟩ := ownsRow_slice he
  have hlt : ∀ m ∈ ms, ∀ b ∈ m.F, b < w.heap.size := fun m hm => (H.mems m (by simp [hm])).2.2.lts (H.mems m (by simp [hm])).1
  have hT := H.turn hc hi hF
  refine ⟨ha, hc', ea, ec, F', rfl, Many.row (Many.row hT _ (own_low he H.chg.size) ?_) _ (own_low hh H.chg.size) ?_, hld⟩
  · intro m hm b hb
    rw [List.mem_cons] at hm
    rcases hm with rfl | hm
    · exact hO hi he b hb
    · intro hb2
      have := (he.lt b hb).1
      have := hlt m hm b hb2
      omega
  · intro m hm b hb
    rw [List.mem_cons] at hm
    rcases hm with rfl | hm
    · exact hs b hb
    · intro hb2
      have := (hh.lt b hb).1
      have := hlt m hm b hb2
      omega

/-- a Mem of the reference's, made -/
theorem mnew_im (n : Nat) (h1 : 2 ≤ n) (h2 : n ≤ 32768) (H : Many W w ms rs) :
    Calls Try.prog 17 #[.int .i64 n] w fun e w' => ∃ K q F, e = .returned (.pointer (some ⟨K, 0, none⟩)) ∧ Many W w' (⟨IM K q, F, St.fresh n, 0⟩ :: ms) rs := by
  refine (rmnew_in n h1 h2 w).mono ?_
  rintro e w' ⟨K, q, lv, fv, rfl, hc, hm, hr, g1, g2⟩
  refine ⟨K, q, K :: rfoot q lv fv 0, rfl, H.new hc ⟨lv, fv, hr, hm, rfl⟩ (fun b hb => ?_) (fr_model K q)⟩
  rw [List.mem_cons] at hb
  rcases hb with rfl | hb
  · exact g1
  · exact g2 b hb

theorem real_many' {M p : Nat} {F : List Nat} {S : St} {k : Nat} (H : Many W w (⟨IR M p, F, S, k⟩ :: ms) rs) :
    Calls Try.prog 10 #[.pointer (some ⟨M, 0, none⟩)] w fun e w' =>
      e = .returned (.agg #[.func (.func 28) #[.pointer (some ⟨M, 0, none⟩)] #[], .func (.func 33) #[.pointer (some ⟨M, 0, none⟩)] #[], .func (.func 27) #[.pointer (some ⟨p, 0, none⟩)] #[],
        .func (.func 34) #[.pointer (some ⟨p, 0, none⟩)] #[], .func (.func 26) #[.pointer (some ⟨p, 0, none⟩)] #[]]) ∧ Many W w' (⟨IR M p, F, S, k⟩ :: ms) rs := by
  obtain ⟨⟨h, c, sv, cs, hA, hM, _⟩, h2, h3⟩ := H.mems _ (List.mem_cons_self)
  refine (real_am hM).mono ?_
  rintro e w' ⟨rfl, hc⟩
  exact ⟨rfl, H.keep hc⟩

theorem model_many {K q : Nat} {F : List Nat} {S : St} {k : Nat} (H : Many W w (⟨IM K q, F, S, k⟩ :: ms) rs) :
    Calls Try.prog 18 #[.pointer (some ⟨K, 0, none⟩)] w fun e w' =>
      e = .returned (.agg #[.func (.func 41) #[.pointer (some ⟨K, 0, none⟩)] #[], .func (.func 42) #[.pointer (some ⟨K, 0, none⟩)] #[], .func (.func 43) #[.pointer (some ⟨q, 0, none⟩)] #[],
        .func (.func 44) #[.pointer (some ⟨q, 0, none⟩)] #[], .func (.func 45) #[.pointer (some ⟨q, 0, none⟩)] #[]]) ∧ Many W w' (⟨IM K q, F, S, k⟩ :: ms) rs := by
  obtain ⟨⟨lv, fv, hA, hM, _⟩, h2, h3⟩ := H.mems _ (List.mem_cons_self)
  refine (model_am hM).mono ?_
  rintro e w' ⟨rfl, hc⟩
  exact ⟨rfl, H.keep hc⟩
end

theorem mtop_am {w : World} {p h c : Nat} {sv : Value} {cs : List Int} {S : St} (H : AM w p h c sv cs S) : Calls Try.prog 21 #[.pointer (some ⟨h, 0, none⟩)] w fun e w' => e = .returned (.int .i64 (S.top : Int)) ∧ w' = w := by
  have k := cell_at H.hv (o := 3) (v := .int .i64 (S.top : Int)) rfl
  go_enter Try.func21, Try.ntmps21
  go_wp2
  go_ret
  exact ⟨rfl, rfl⟩

theorem chg_keeps {w w' : World} (h : Chg [] w w') : Keeps w w' := fun ad u hu => by
  have hb := World.block_lt_of_cell? w ad hu
  rw [World.cell?_of_block (h.block _ hb (by simp))]
  exact hu

end Go.Proofs.Ytleoedjjepkhgaa
