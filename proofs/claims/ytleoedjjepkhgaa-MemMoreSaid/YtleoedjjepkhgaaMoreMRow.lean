/- MemMore: for every number of cells and every list of steps the law returns true, and what came in reads as it did. No condition. -/
import Derived.Test.YtleoedjjepkhgaaMoreM
import Derived.Test.YtleoedjjepkhgaaOpenC
namespace Go.Proofs.Ytleoedjjepkhgaa
open Go.ChangeShapes Go.WideShapes Go.RowKit Go.Deep

theorem u16_of_wf {n : Int} (h : (Lit.int .u16 n).wf = true) : 0 ≤ n ∧ n ≤ 65535 := by
  simp only [Lit.wf, Bool.and_eq_true, decide_eq_true_eq] at h
  have h1 := h.1
  have h2 := h.2
  have e1 : IntKind.u16.min = 0 := rfl
  have e2 : IntKind.u16.max = 65535 := rfl
  omega

set_option maxRecDepth 100000 in
theorem memMore_lifted (os : Os) (started : os.Started) (H : Type) (enc : TypeId × Value → H) :
    ReturnsInHanded {} Try.checked os 5 .any (Rows.memMoreSpec.pre6 enc Try.prog Try.f5 Rows.memMoreRow.domain false) (Rows.memMoreSpec.post enc Try.prog Try.f5 false true false false) := by
  refine returnsInHanded_of_change (C := Try.checked) Try.own started (by kernel_rfl) Try.func5
    (ChangeSpec.witness6 (enc := enc) (C := Try.checked) false ⟨#[], #[.int .i64 0, .int .u16 0, .slice none 0 0], []⟩ 8 (by kernel_rfl) (by kernel_rfl) (by kernel_rfl) (by kernel_rfl)) ?_
  intro W base args ds gs before hval0 hW hcnd _
  have hval : ∀ (j : Nat) t v, Try.f5.params[j]? = some t → args[j]? = some v → Value.okWide Try.prog W .any base t v := hval0
  have hW' := hW
  obtain ⟨p, q, hA0, hV, rfl, hfz, hnd⟩ := hW
  have hA : DataW.TrodAll enc Try.prog W 0 (fun _ => true) true Try.f5.params.toList args.toList ds p := hA0
  rw [Try.params5] at hA hval
  have hAk := hA
  obtain ⟨v0, v2, v1, d0, d2, d1, p0, p2, p1, rfl, rfl, rfl, h0, h2, h1⟩ := trodAll_three hA
  obtain ⟨rfl, rfl⟩ := trodVars_none hV
  obtain ⟨n, rfl, _, _, wn⟩ := open_int Try.underlying3 (hval 0 3 v0 rfl rfl) h0
  obtain ⟨z, rfl, _, _, wz⟩ := open_int Try.underlying53 (hval 1 53 v2 rfl rfl) h2
  obtain ⟨a1, n1, c1, rfl⟩ := okWide_slice Try.underlying22 (hval 2 22 v1 rfl rfl)
  obtain ⟨f1, hf1⟩ := h1
  obtain ⟨A, l, cap, e1, hr, hok, hl⟩ := open_rds hf1
  have e1' : Value.slice a1 n1 c1 = .slice A l.length cap := by simpa [Value.cells] using e1
  simp only [Value.slice.injEq] at e1'
  obtain ⟨rfl, rfl, rfl⟩ := e1'
  obtain ⟨A', n', cap', e2, hcap⟩ := open_cap hf1
  have e2' : Value.slice a1 l.length c1 = .slice A' n' cap' := by simpa [Value.cells] using e2
  simp only [Value.slice.injEq] at e2'
  obtain ⟨rfl, rfl, rfl⟩ := e2'
  have hwn := i64_of_wf wn
  have hwz := u16_of_wf wz
  clear hA0 hval0
  simp only [List.append_nil] at hW'
  refine (moreLaw_am W n z a1 c1 l ⟨hwn.1, hwn.2, hr, hok, hl⟩ hcap hwz).mono fun e W' ⟨he, hch⟩ => ?_
  subst he
  exact ⟨_, rfl, law_post (ps := [3, 53, 22]) (rt := 4) (by rw [Try.params5]) rfl Try.underlying4 rfl (by intro t ht; simp only [List.mem_cons, List.not_mem_nil, or_false] at ht; rcases ht with rfl | rfl | rfl <;> exact ⟨by kernel_rfl, of_decide_eq_true (by kernel_rfl)⟩) hW' hAk rfl hch⟩

theorem memMore_holds : Rows.MemMoreSaid :=
  OpenClaim.holds_of_wide 5 Try.f5 rfl rfl rfl rfl rfl rfl rfl ⟨rfl, rfl, rfl, rfl, rfl⟩ rfl rfl rfl rfl rfl (by kernel_rfl) Try.func5 (by kernel_rfl)
    (of_decide_eq_true (by kernel_rfl)) (by unfold Func.isWrapper; first | (rw [if_pos (by decide +kernel)]; kernel_rfl) | (rw [if_neg (by decide +kernel)]; exact ⟨rfl, rfl⟩))
    (fun os started H enc _ => memMore_lifted os started H enc)

end Go.Proofs.Ytleoedjjepkhgaa
