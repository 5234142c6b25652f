/- PulseNone, the given statement: at every number and every connection the law's Go function answers true, and leaves all that lay as it lay. -/
import Derived.Test.YtnaeabcaennbjaaRowL
import Derived.Test.YtnaeabcaennbjaaPLaw
namespace Go.Proofs.Ytnaeabcaennbjaa
open Go.ChangeShapes Go.WideShapes Go.ChangeAt Go.RowKit

theorem none_any (g id : Int) (W : World) (hg : (Lit.int .u8 g).wf = true) (hid : (Lit.int .i64 id).wf = true) :
    Calls Try.prog 5 #[.int .u8 g, .int .i64 id] W (fun e W' => e = .returned (.bool true) ∧ Below W.heap.size W W') := by
  have e1 : IntKind.min .u8 = 0 := by decide
  have e2 : IntKind.max .u8 = 255 := by decide
  have e3 : IntKind.min .i64 = -9223372036854775808 := by decide
  have e4 : IntKind.max .i64 = 9223372036854775807 := by decide
  simp [Lit.wf, e1, e2] at hg
  simp [Lit.wf, e3, e4] at hid
  refine (CALL.calls Try.call5 (none_c (l := [All W]) (k := fun v W' => v = .bool true ∧ Below W.heap.size W W') (SatL.all W) hg hid fun w' h => ⟨rfl, h.below⟩)).mono ?_
  rintro e w' ⟨v, rfl, rfl, h⟩
  exact ⟨rfl, h⟩
set_option maxRecDepth 100000 in
theorem none_lifted (os : Os) (started : os.Started) (H : Type) (enc : TypeId × Value → H) :
    ReturnsInHanded {} Try.checked os 5 .any (Rows.pulseNoneSpec.pre6 enc Try.prog Try.f5 Rows.pulseNoneRow.domain false) (Rows.pulseNoneSpec.post enc Try.prog Try.f5 false true false false) := by
  refine returnsInHanded_of_change (C := Try.checked) Try.own started (by kernel_rfl) Try.func5
    (ChangeSpec.witness6 (enc := enc) (C := Try.checked) false ⟨#[], #[.int .u8 0, .int .i64 0], []⟩ 8 (by kernel_rfl) (by kernel_rfl) (by kernel_rfl) (by kernel_rfl)) ?_
  intro W base args ds gs before hval0 hW hcnd _
  have hval : ∀ (j : Nat) t v, Try.f5.params[j]? = some t → args[j]? = some v → Value.okWide Try.prog W .any base t v := hval0
  have hW' := hW
  obtain ⟨p, q, hA0, hV, rfl, hfz, hnd⟩ := hW
  have hA : DataW.TrodAll enc Try.prog W 0 (fun _ => true) true Try.f5.params.toList args.toList ds p := hA0
  rw [Try.params5] at hA hval
  obtain ⟨v0, v1, d0, d1, p0, p1, rfl, rfl, rfl, h0, h1⟩ := trodAll_two hA
  obtain ⟨rfl, rfl⟩ := trodVars_none hV
  obtain ⟨a, rfl, rfl, rfl, wa⟩ := open_int Try.underlying5 (hval 0 5 v0 rfl rfl) h0
  obtain ⟨b, rfl, rfl, rfl, wb⟩ := open_int Try.underlying3 (hval 1 3 v1 rfl rfl) h1
  refine (none_any a b W wa wb).mono fun e W' ⟨he, hb⟩ => ?_
  subst he
  exact ⟨_, rfl, law_post Try.laidOut rfl (by kernel_rfl) Try.underlying4 (by rw [Try.params5]; intro t ht; simp at ht; rcases ht with rfl | rfl <;> exact ⟨by kernel_rfl, of_decide_eq_true (by kernel_rfl)⟩) hW' rfl hb⟩
theorem pulseNone_holds : Rows.PulseNoneSaid :=
  OpenClaim.holds_of_wide 5 Try.f5 rfl rfl rfl rfl rfl rfl rfl ⟨rfl, rfl, rfl, rfl, rfl⟩ rfl rfl rfl rfl rfl (by kernel_rfl) Try.func5 (by kernel_rfl)
    (of_decide_eq_true (by kernel_rfl)) (by unfold Func.isWrapper; first | (rw [if_pos (by decide +kernel)]; kernel_rfl) | (rw [if_neg (by decide +kernel)]; exact ⟨rfl, rfl⟩))
    (fun os started H enc _ => none_lifted os started H enc)
end Go.Proofs.Ytnaeabcaennbjaa
