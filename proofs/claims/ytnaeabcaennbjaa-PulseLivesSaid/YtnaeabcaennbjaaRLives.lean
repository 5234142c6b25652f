/- PulseLives, the given statement: at every two numbers and every list of bools the law's Go function answers true, and leaves all that lay as it lay. -/
import Derived.Test.YtnaeabcaennbjaaRowL
import Derived.Test.YtnaeabcaennbjaaPLives
set_option linter.unusedVariables false
namespace Go.Proofs.Ytnaeabcaennbjaa
open Go.ChangeShapes Go.WideShapes Go.ChangeAt Go.RowKit
theorem lives_any (p g : Int) (s : Sl) (hs : List Bool) (W : World) (hin : SliceIn W 1 (fun x => [Value.bool x]) s hs) (hp : (Lit.int .u8 p).wf = true) (hg : (Lit.int .u8 g).wf = true) :
    Calls Try.prog 3 #[.int .u8 p, .int .u8 g, slv s] W (fun e W' => e = .returned (.bool true) ∧ Below W.heap.size W W') := by
  have e1 : IntKind.min .u8 = 0 := by decide
  have e2 : IntKind.max .u8 = 255 := by decide
  simp [Lit.wf, e1, e2] at hp hg
  refine (CALL.calls Try.call3 (lives_c (l := [own Old W ()]) (k := fun v W' => v = .bool true ∧ Below W.heap.size W W') (SatL.old W) hin hp hg fun w' h => ⟨rfl, h.old_below⟩)).mono ?_
  rintro e w' ⟨v, rfl, rfl, h⟩
  exact ⟨rfl, h⟩
set_option maxRecDepth 100000 in
theorem lives_lifted (os : Os) (started : os.Started) (H : Type) (enc : TypeId × Value → H) :
    ReturnsInHanded {} Try.checked os 3 .any (Rows.pulseLivesSpec.pre6 enc Try.prog Try.f3 Rows.pulseLivesRow.domain false) (Rows.pulseLivesSpec.post enc Try.prog Try.f3 false true false false) := by
  refine returnsInHanded_of_change (C := Try.checked) Try.own started (by kernel_rfl) Try.func3
    (ChangeSpec.witness6 (enc := enc) (C := Try.checked) false ⟨#[], #[.int .u8 0, .int .u8 0, .slice none 0 0], []⟩ 8 (by kernel_rfl) (by kernel_rfl) (by kernel_rfl) (by kernel_rfl)) ?_
  intro W base args ds gs before hval0 hW hcnd _
  have hval : ∀ (j : Nat) t v, Try.f3.params[j]? = some t → args[j]? = some v → Value.okWide Try.prog W .any base t v := hval0
  have hW' := hW
  obtain ⟨p, q, hA0, hV, rfl, hfz, hnd⟩ := hW
  have hA : DataW.TrodAll enc Try.prog W 0 (fun _ => true) true Try.f3.params.toList args.toList ds p := hA0
  rw [Try.params3] at hA hval
  obtain ⟨v0, v1, v2, d0, d1, d2, p0, p1, p2, rfl, rfl, rfl, h0, h1, h2⟩ := trodAll_three hA
  obtain ⟨rfl, rfl⟩ := trodVars_none hV
  obtain ⟨a, rfl, rfl, rfl, wa⟩ := open_int Try.underlying5 (hval 0 5 v0 rfl rfl) h0
  obtain ⟨b, rfl, rfl, rfl, wb⟩ := open_int Try.underlying5 (hval 1 5 v1 rfl rfl) h1
  obtain ⟨s, hs, rfl, hin⟩ := open_bool_slice Try.underlying22 Try.underlying4 (by kernel_rfl) (hval 2 22 v2 rfl rfl) h2
  refine (lives_any a b s hs W hin wa wb).mono fun e W' ⟨he, hb⟩ => ?_
  subst he
  exact ⟨_, rfl, law_post Try.laidOut rfl (by kernel_rfl) Try.underlying4 (by rw [Try.params3]; intro t ht; simp at ht; rcases ht with rfl | rfl <;> exact ⟨by kernel_rfl, of_decide_eq_true (by kernel_rfl)⟩) hW' rfl hb⟩
theorem pulseLives_holds : Rows.PulseLivesSaid :=
  OpenClaim.holds_of_wide 3 Try.f3 rfl rfl rfl rfl rfl rfl rfl ⟨rfl, rfl, rfl, rfl, rfl⟩ rfl rfl rfl rfl rfl (by kernel_rfl) Try.func3 (by kernel_rfl)
    (of_decide_eq_true (by kernel_rfl)) (by unfold Func.isWrapper; first | (rw [if_pos (by decide +kernel)]; kernel_rfl) | (rw [if_neg (by decide +kernel)]; exact ⟨rfl, rfl⟩))
    (fun os started H enc _ => lives_lifted os started H enc)
end Go.Proofs.Ytnaeabcaennbjaa
