/- CopierDoes: for every number of cells, every list of blocks and every two lists of roots the law returns true, and what came in reads as it did. No condition. -/
import Derived.Test.YtkjggomkkfknhaaDoes
import Derived.Test.YtkjggomkkfknhaaOpen
import Derived.Carry
namespace Go.Proofs.Ytkjggomkkfknhaa
open Go.ChangeShapes Go.WideShapes Go.RowKit Go.Deep

set_option maxHeartbeats 1000000 in
set_option maxRecDepth 100000 in
theorem doesLaw_lifted (os : Os) (started : os.Started) (H : Type) (enc : TypeId × Value → H) :
    ReturnsInHanded {} Try.checked os 3 .any (Rows.copierDoesSpec.pre6 enc Try.prog Try.f3 Rows.copierDoesRow.domain false) (Rows.copierDoesSpec.post enc Try.prog Try.f3 false true false false) := by
  refine returnsInHanded_of_change (C := Try.checked) Try.own started (by kernel_rfl) Try.func3
    (ChangeSpec.witness6 (enc := enc) (C := Try.checked) false ⟨#[], #[.int .i64 0, .slice none 0 0, .slice none 0 0, .slice none 0 0], []⟩ 8 (by kernel_rfl) (by kernel_rfl) (by kernel_rfl) (by kernel_rfl)) ?_
  intro W base args ds gs before hval0 hW hcnd _
  have hval : ∀ (j : Nat) t v, Try.f3.params[j]? = some t → args[j]? = some v → Value.okWide Try.prog W .any base t v := hval0
  have hW' := hW
  obtain ⟨p, q, hA0, hV, rfl, hfz, hnd⟩ := hW
  have hA : DataW.TrodAll enc Try.prog W 0 (fun _ => true) true Try.f3.params.toList args.toList ds p := hA0
  rw [Try.params3] at hA hval
  have hAk := hA
  obtain ⟨v0, v1, v2, v3, d0, d1, d2, d3, p0, p1, p2, p3, rfl, rfl, rfl, h0, h1, h2, h3⟩ := trodAll_four hA
  obtain ⟨rfl, rfl⟩ := trodVars_none hV
  obtain ⟨n, A, L, cap, B, l, cap2, e0, e1, e2, HG, HW⟩ := open_law3 (hval 0 3 v0 rfl rfl) (hval 1 22 v1 rfl rfl) (hval 2 23 v2 rfl rfl) h0 h1 h2
  obtain ⟨a3, n3, c3, rfl⟩ := okWide_slice Try.underlying23 (hval 3 23 v3 rfl rfl)
  obtain ⟨f3, hf3⟩ := h3
  obtain ⟨B3, l3, cap3, e3, hr3, hw3, hl3⟩ := open_rdw hf3
  have e3' : Value.slice a3 n3 c3 = .slice B3 l3.length cap3 := by simpa [Value.cells] using e3
  simp only [Value.slice.injEq] at e3'
  obtain ⟨rfl, rfl, rfl⟩ := e3'
  subst e0 e1 e2
  clear hA0 hval0
  simp only [List.append_nil] at hW'
  refine (doesLaw_am W n A cap L HG B cap2 l HW a3 c3 l3 ⟨hr3, hw3, hl3⟩).mono fun e W' ⟨he, hch⟩ => ?_
  subst he
  exact ⟨_, rfl, law_post (ps := [3, 22, 23, 23]) (rt := 4) (by rw [Try.params3]) rfl Try.underlying4 rfl (by intro t ht; simp only [List.mem_cons, List.not_mem_nil, or_false] at ht; rcases ht with rfl | rfl | rfl | rfl <;> exact ⟨by kernel_rfl, of_decide_eq_true (by kernel_rfl)⟩) hW' hAk rfl hch⟩

theorem copierDoes_holds : Rows.CopierDoesSaid :=
  OpenClaim.holds_of_wide 3 Try.f3 rfl rfl rfl rfl rfl rfl rfl ⟨rfl, rfl, rfl, rfl, rfl⟩ rfl rfl rfl rfl rfl (by kernel_rfl) Try.func3 (by kernel_rfl)
    (of_decide_eq_true (by kernel_rfl)) (by unfold Func.isWrapper; first | (rw [if_pos (by decide +kernel)]; kernel_rfl) | (rw [if_neg (by decide +kernel)]; exact ⟨rfl, rfl⟩))
    (fun os started H enc _ => doesLaw_lifted os started H enc)

end Go.Proofs.Ytkjggomkkfknhaa
