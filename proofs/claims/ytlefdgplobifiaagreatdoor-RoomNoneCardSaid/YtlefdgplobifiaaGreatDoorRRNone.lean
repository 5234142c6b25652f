/- RoomNone, the given statement: at every act the law's Go function answers true, and leaves all that lay as it lay. -/
import Derived.Test.YtlefdgplobifiaaGreatDoorRowA
set_option linter.unusedVariables false
namespace Go.Proofs.YtlefdgplobifiaaGreatDoor
open Go.ChangeShapes Go.WideShapes Go.ChangeAt Go.RowKit
set_option maxRecDepth 100000 in
theorem roomNone_lifted (os : Os) (started : os.Started) (H : Type) (enc : TypeId × Value → H) :
    ReturnsInHanded {} Tryz.checked os 6 .any (fun w args => (Rows.roomNoneSpec.pre enc Tryz.prog Tryz.f6 [] false w args ∧ laidMetH Tryz.prog laid7 w) ∧ sizedMet enc Tryz.prog Tryz.f6 (OpenSpec.ofChange Rows.roomNoneSpec) false w args)
      (Rows.roomNoneSpec.post enc Tryz.prog Tryz.f6 false true false false) := by
  refine returnsInHanded_of_change_and (C := Tryz.checked) (X := fun w _ => laidMetH Tryz.prog laid7 w) (fun _ _ _ hh h => h.of_heap hh) Tryz.own started (by kernel_rfl) Tryz.func6
    (ChangeSpec.witness_shaped (enc := enc) (C := Tryz.checked) (os := os) (X := fun w _ => laidMetH Tryz.prog laid7 w) false (World.laidAll Tryz.prog os laid7) #[.agg #[.int .i64 0, .int .i64 0, .bool false, .string ⟨#[]⟩, .bool false, .int .u8 0, .string ⟨#[]⟩]] 8 (World.laidAll_os _ _ _)
      (World.shaped_of_ZipB (by kernel_rfl) (by kernel_rfl)) (by kernel_rfl) (by kernel_rfl) (by kernel_rfl) (laid7_met os _)) ?_
  intro W base args ds gs before hval0 hW _ _ hL _
  have hval : ∀ (j : Nat) t v, Tryz.f6.params[j]? = some t → args[j]? = some v → Value.okWide Tryz.prog W .any base t v := hval0
  have hW' := hW
  obtain ⟨p, q, hA0, hV, rfl, _, _⟩ := hW
  have hA : DataW.TrodAll enc Tryz.prog W 0 (fun _ => true) true Tryz.f6.params.toList args.toList ds p := hA0
  rw [Tryz.params6] at hA hval
  obtain ⟨v0, d0, rfl, rfl, h0⟩ := trodAll_one hA
  obtain ⟨rfl, rfl⟩ := trodVars_none hV
  obtain ⟨n, id, op, x, on, c, a, rfl⟩ := open_act (hval 0 33 v0 rfl rfl) h0
  have hT := pow10_of hL
  have hc : Calls Tryz.prog 6 #[.agg #[.int .i64 n, .int .i64 id, .bool op, .string x, .bool on, .int .u8 c, .string a]] W (fun e W' => e = .returned (.bool true) ∧ Below W.heap.size W W') := by
    rw [St_of x, St_of a]
    refine (CALL.calls Tryz.call6 (roomNone_c (l := [own Old W ()]) (k := fun v W' => v = .bool true ∧ Below W.heap.size W W') hT (SatL.old W) fun w' h => ⟨rfl, h.old_below⟩)).mono ?_
    rintro e w' ⟨v, rfl, rfl, h⟩
    exact ⟨rfl, h⟩
  refine hc.mono fun e W' ⟨he, hb⟩ => ?_
  subst he
  exact ⟨_, rfl, law_post Tryz.laidOut rfl (by kernel_rfl) Tryz.underlying4 (by rw [Tryz.params6]; intro t ht; simp at ht; rcases ht with rfl; exact ⟨by kernel_rfl, of_decide_eq_true (by kernel_rfl)⟩) hW' rfl hb⟩
set_option maxRecDepth 100000 in
theorem roomNone_row : Rows.RoomNoneSaid :=
  OpenClaim.holds_of_wide 6 Tryz.f6 rfl rfl rfl rfl rfl rfl rfl ⟨rfl, rfl, rfl, rfl, rfl⟩ rfl rfl rfl rfl rfl (by kernel_rfl) Tryz.func6 (by kernel_rfl)
    (of_decide_eq_true (by kernel_rfl)) (by unfold Func.isWrapper; first | (rw [if_pos (by decide +kernel)]; kernel_rfl) | (rw [if_neg (by decide +kernel)]; exact ⟨rfl, rfl⟩))
    (fun os started H enc _ => roomNone_lifted os started H enc)
set_option maxRecDepth 100000 in
theorem roomNone_holds : Rows.RoomNoneCardSaid :=
  Claim7.holds_tied_plain_at .later [] [.data, .data, .data, .data, .sentinel, .sentinel, .pinned] true (true, "d4e5303d3f54ee9848f7bb2bbd22730ef495f248fdd4fc1a0104b924558d87ec") true roomNone_row (fun _ h => by cases h) (by kernel_rfl) (fun _ h => by cases h) roomNone_row_tie rfl ⟨rfl, rfl⟩ (by kernel_rfl) rfl
    (fun f fn hf hfn => by
      obtain rfl : f = 6 := Option.some.inj ((show Tryz.prog.funcNamed "rollcall/rollcalllaw19.RoomNone" = some 6 by kernel_rfl).symm.trans hf) |>.symm
      obtain rfl : fn = Tryz.f6 := (Option.some.inj (Tryz.func6.symm.trans hfn)).symm
      exact ⟨by kernel_rfl, fun j t ht => by
        rw [Tryz.params6] at ht
        have hm : t ∈ [33] := by simpa using Array.mem_of_getElem? ht
        have hall : ([33].all fun u => !Tryz.prog.wantsStandIn u) = true := by kernel_rfl
        exact (show Tryz.prog.wantsStandIn t = false by simpa using List.all_eq_true.1 hall t hm)⟩)
    (by kernel_rfl)
end Go.Proofs.YtlefdgplobifiaaGreatDoor
