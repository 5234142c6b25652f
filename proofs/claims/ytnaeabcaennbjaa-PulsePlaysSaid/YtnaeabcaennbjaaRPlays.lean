/- PulsePlays, the given statement: at every three numbers and every list of acts the law's Go function answers true, and leaves all that lay as it lay. -/
import Derived.Test.YtnaeabcaennbjaaRowL
import Derived.Test.YtnaeabcaennbjaaPPlays
set_option linter.unusedVariables false
namespace Go.Proofs.Ytnaeabcaennbjaa
open Go.ChangeShapes Go.WideShapes Go.ChangeAt Go.RowKit
theorem inI_wf {n : Int} (h : (Lit.int .i64 n).wf = true) : inI n := by
  have e3 : IntKind.min .i64 = -9223372036854775808 := by decide
  have e4 : IntKind.max .i64 = 9223372036854775807 := by decide
  simp [Lit.wf, e3, e4] at h
  exact h
theorem plays_any (p g q : Int) (s : Sl) (acts : List (List Int)) (W : World) (hin : SliceIn W 3 (fun x => x.map (Value.int .i64)) s acts) (ha : ∀ x ∈ acts, x.length = 3 ∧ ∀ z ∈ x, (Lit.int .i64 z).wf = true) :
    Calls Try.prog 4 #[.int .i64 p, .int .i64 g, .int .i64 q, slv s] W (fun e W' => e = .returned (.bool true) ∧ Below W.heap.size W W') := by
  refine (CALL.calls Try.call4 (plays_c (l := [own Old W ()]) (k := fun v W' => v = .bool true ∧ Below W.heap.size W W') (SatL.old W) hin (fun x hx => ⟨(ha x hx).1, fun z hz => inI_wf ((ha x hx).2 z hz)⟩) fun w' h => ⟨rfl, h.old_below⟩)).mono ?_
  rintro e w' ⟨v, rfl, rfl, h⟩
  exact ⟨rfl, h⟩
set_option maxRecDepth 100000 in
theorem plays_lifted (os : Os) (started : os.Started) (H : Type) (enc : TypeId × Value → H) :
    ReturnsInHanded {} Try.checked os 4 .any (Rows.pulsePlaysSpec.pre6 enc Try.prog Try.f4 Rows.pulsePlaysRow.domain false) (Rows.pulsePlaysSpec.post enc Try.prog Try.f4 false true false false) := by
  refine returnsInHanded_of_change (C := Try.checked) Try.own started (by kernel_rfl) Try.func4
    (ChangeSpec.witness6 (enc := enc) (C := Try.checked) false ⟨#[], #[.int .i64 0, .int .i64 0, .int .i64 0, .slice none 0 0], []⟩ 8 (by kernel_rfl) (by kernel_rfl) (by kernel_rfl) (by kernel_rfl)) ?_
  intro W base args ds gs before hval0 hW hcnd _
  have hval : ∀ (j : Nat) t v, Try.f4.params[j]? = some t → args[j]? = some v → Value.okWide Try.prog W .any base t v := hval0
  have hW' := hW
  obtain ⟨p, q, hA0, hV, rfl, hfz, hnd⟩ := hW
  have hA : DataW.TrodAll enc Try.prog W 0 (fun _ => true) true Try.f4.params.toList args.toList ds p := hA0
  rw [Try.params4] at hA hval
  obtain ⟨v0, v1, v2, v3, d0, d1, d2, d3, p0, p1, p2, p3, rfl, rfl, rfl, h0, h1, h2, h3⟩ := trodAll_four hA
  obtain ⟨rfl, rfl⟩ := trodVars_none hV
  obtain ⟨a, rfl, rfl, rfl, wa⟩ := open_int Try.underlying3 (hval 0 3 v0 rfl rfl) h0
  obtain ⟨b, rfl, rfl, rfl, wb⟩ := open_int Try.underlying3 (hval 1 3 v1 rfl rfl) h1
  obtain ⟨c, rfl, rfl, rfl, wc⟩ := open_int Try.underlying3 (hval 2 3 v2 rfl rfl) h2
  obtain ⟨s, acts, rfl, ha, hin⟩ := open_int_structs (n := 3) (f0 := 3) Try.underlying33 Try.underlying39 rfl (by kernel_rfl) (fun j f hj => by
    match j, hj with
    | 0, hj => cases hj; exact ⟨rfl, rfl⟩
    | 1, hj => cases hj; exact ⟨rfl, rfl⟩
    | 2, hj => cases hj; exact ⟨rfl, rfl⟩
    | n + 3, hj => simp at hj) Try.underlying3 (by kernel_rfl) (hval 3 33 v3 rfl rfl) h3
  refine (plays_any a b c s acts W hin ha).mono fun e W' ⟨he, hb⟩ => ?_
  subst he
  exact ⟨_, rfl, law_post Try.laidOut rfl (by kernel_rfl) Try.underlying4 (by rw [Try.params4]; intro t ht; simp at ht; rcases ht with rfl | rfl <;> exact ⟨by kernel_rfl, of_decide_eq_true (by kernel_rfl)⟩) hW' rfl hb⟩
theorem pulsePlays_holds : Rows.PulsePlaysSaid :=
  OpenClaim.holds_of_wide 4 Try.f4 rfl rfl rfl rfl rfl rfl rfl ⟨rfl, rfl, rfl, rfl, rfl⟩ rfl rfl rfl rfl rfl (by kernel_rfl) Try.func4 (by kernel_rfl)
    (of_decide_eq_true (by kernel_rfl)) (by unfold Func.isWrapper; first | (rw [if_pos (by decide +kernel)]; kernel_rfl) | (rw [if_neg (by decide +kernel)]; exact ⟨rfl, rfl⟩))
    (fun os started H enc _ => plays_lifted os started H enc)
end Go.Proofs.Ytnaeabcaennbjaa
