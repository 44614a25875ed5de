/- MemDoes: for every number of cells and every list of steps the law returns true, and what came in reads as it did. No condition. -/
import Derived.Test.YtleoedjjepkhgaaDoesM
import Derived.Test.YtleoedjjepkhgaaOpenM
namespace Go.Proofs.Ytleoedjjepkhgaa
open Go.ChangeShapes Go.WideShapes Go.RowKit Go.Deep

set_option maxRecDepth 100000 in
theorem memDoes_lifted (os : Os) (started : os.Started) (H : Type) (enc : TypeId × Value → H) :
    ReturnsInHanded {} Try.checked os 6 .any (Rows.memDoesSpec.pre6 enc Try.prog Try.f6 Rows.memDoesRow.domain false) (Rows.memDoesSpec.post enc Try.prog Try.f6 false true false false) := by
  refine returnsInHanded_of_change (C := Try.checked) Try.own started (by kernel_rfl) Try.func6
    (ChangeSpec.witness6 (enc := enc) (C := Try.checked) false ⟨#[], #[.int .i64 0, .slice none 0 0], []⟩ 8 (by kernel_rfl) (by kernel_rfl) (by kernel_rfl) (by kernel_rfl)) ?_
  intro W base args ds gs before hval0 hW hcnd _
  have hval : ∀ (j : Nat) t v, Try.f6.params[j]? = some t → args[j]? = some v → Value.okWide Try.prog W .any base t v := hval0
  have hW' := hW
  obtain ⟨p, q, hA0, hV, rfl, hfz, hnd⟩ := hW
  have hA : DataW.TrodAll enc Try.prog W 0 (fun _ => true) true Try.f6.params.toList args.toList ds p := hA0
  rw [Try.params6] at hA hval
  have hAk := hA
  obtain ⟨v0, v1, d0, d1, p0, p1, rfl, rfl, rfl, h0, h1⟩ := trodAll_two hA
  obtain ⟨rfl, rfl⟩ := trodVars_none hV
  obtain ⟨n, rfl, _, _, wn⟩ := open_int Try.underlying3 (hval 0 3 v0 rfl rfl) h0
  obtain ⟨a1, n1, c1, rfl⟩ := okWide_slice Try.underlying22 (hval 1 22 v1 rfl rfl)
  obtain ⟨f1, hf1⟩ := h1
  obtain ⟨A, l, cap, e1, hr, hok, hl⟩ := open_rds hf1
  have e1' : Value.slice a1 n1 c1 = .slice A l.length cap := by simpa [Value.cells] using e1
  simp only [Value.slice.injEq] at e1'
  obtain ⟨rfl, rfl, rfl⟩ := e1'
  have hwn := i64_of_wf wn
  clear hA0 hval0
  simp only [List.append_nil] at hW'
  refine (doesLaw_am W n a1 c1 l ⟨hwn.1, hwn.2, hr, hok, hl⟩).mono fun e W' ⟨he, hch⟩ => ?_
  subst he
  exact ⟨_, rfl, law_post (ps := [3, 22]) (rt := 4) (by rw [Try.params6]) rfl Try.underlying4 rfl (by intro t ht; simp only [List.mem_cons, List.not_mem_nil, or_false] at ht; rcases ht with rfl | rfl <;> exact ⟨by kernel_rfl, of_decide_eq_true (by kernel_rfl)⟩) hW' hAk rfl hch⟩

theorem memDoes_holds : Rows.MemDoesSaid :=
  OpenClaim.holds_of_wide 6 Try.f6 rfl rfl rfl rfl rfl rfl rfl ⟨rfl, rfl, rfl, rfl, rfl⟩ rfl rfl rfl rfl rfl (by kernel_rfl) Try.func6 (by kernel_rfl)
    (of_decide_eq_true (by kernel_rfl)) (by unfold Func.isWrapper; first | (rw [if_pos (by decide +kernel)]; kernel_rfl) | (rw [if_neg (by decide +kernel)]; exact ⟨rfl, rfl⟩))
    (fun os started H enc _ => memDoes_lifted os started H enc)

end Go.Proofs.Ytleoedjjepkhgaa
