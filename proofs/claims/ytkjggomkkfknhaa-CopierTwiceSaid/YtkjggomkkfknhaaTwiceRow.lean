/- CopierTwice: for every number of cells, every list of blocks and every list of roots the law returns true, and what came in reads as it did. No condition. -/
import Derived.Test.YtkjggomkkfknhaaTwice
import Derived.Test.YtkjggomkkfknhaaOpen
namespace Go.Proofs.Ytkjggomkkfknhaa
open Go.ChangeShapes Go.WideShapes Go.RowKit Go.Deep

set_option maxRecDepth 100000 in
theorem twiceLaw_lifted (os : Os) (started : os.Started) (H : Type) (enc : TypeId × Value → H) :
    ReturnsInHanded {} Try.checked os 7 .any (Rows.copierTwiceSpec.pre6 enc Try.prog Try.f7 Rows.copierTwiceRow.domain false) (Rows.copierTwiceSpec.post enc Try.prog Try.f7 false true false false) := by
  refine returnsInHanded_of_change (C := Try.checked) Try.own started (by kernel_rfl) Try.func7
    (ChangeSpec.witness6 (enc := enc) (C := Try.checked) false ⟨#[], #[.int .i64 0, .slice none 0 0, .slice none 0 0], []⟩ 8 (by kernel_rfl) (by kernel_rfl) (by kernel_rfl) (by kernel_rfl)) ?_
  intro W base args ds gs before hval0 hW hcnd _
  have hval : ∀ (j : Nat) t v, Try.f7.params[j]? = some t → args[j]? = some v → Value.okWide Try.prog W .any base t v := hval0
  have hW' := hW
  obtain ⟨p, q, hA0, hV, rfl, hfz, hnd⟩ := hW
  have hA : DataW.TrodAll enc Try.prog W 0 (fun _ => true) true Try.f7.params.toList args.toList ds p := hA0
  rw [Try.params7] at hA hval
  have hAk := hA
  obtain ⟨v0, v1, v2, d0, d1, d2, p0, p1, p2, rfl, rfl, rfl, h0, h1, h2⟩ := trodAll_three hA
  obtain ⟨rfl, rfl⟩ := trodVars_none hV
  obtain ⟨n, A, L, cap, B, l, cap2, e0, e1, e2, HG, HW⟩ := open_law3 (hval 0 3 v0 rfl rfl) (hval 1 22 v1 rfl rfl) (hval 2 23 v2 rfl rfl) h0 h1 h2
  subst e0 e1 e2
  clear hA0 hval0
  simp only [List.append_nil] at hW'
  refine (twiceLaw_am W n A cap L HG B cap2 l HW).mono fun e W' ⟨he, hch⟩ => ?_
  subst he
  exact ⟨_, rfl, law_post (ps := [3, 22, 23]) (rt := 4) (by rw [Try.params7]) rfl Try.underlying4 rfl (by intro t ht; simp only [List.mem_cons, List.not_mem_nil, or_false] at ht; rcases ht with rfl | rfl | rfl <;> exact ⟨by kernel_rfl, of_decide_eq_true (by kernel_rfl)⟩) hW' hAk rfl hch⟩

theorem copierTwice_holds : Rows.CopierTwiceSaid :=
  OpenClaim.holds_of_wide 7 Try.f7 rfl rfl rfl rfl rfl rfl rfl ⟨rfl, rfl, rfl, rfl, rfl⟩ rfl rfl rfl rfl rfl (by kernel_rfl) Try.func7 (by kernel_rfl)
    (of_decide_eq_true (by kernel_rfl)) (by unfold Func.isWrapper; first | (rw [if_pos (by decide +kernel)]; kernel_rfl) | (rw [if_neg (by decide +kernel)]; exact ⟨rfl, rfl⟩))
    (fun os started H enc _ => twiceLaw_lifted os started H enc)

end Go.Proofs.Ytkjggomkkfknhaa
