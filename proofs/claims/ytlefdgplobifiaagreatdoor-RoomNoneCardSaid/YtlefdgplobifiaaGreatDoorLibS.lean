/- Go's library: what the shelf's contracts give, in the form of calls. -/
import Derived.Test.YtlefdgplobifiaaGreatDoorStr
import Derived.Test.YtlefdgplobifiaaGreatDoorLay
set_option linter.unusedVariables false
set_option linter.unusedSimpArgs false
namespace Go.Proofs.YtlefdgplobifiaaGreatDoor
open Go
theorem CALL.of {P : Program} {g : FuncId} {args : Array Value} {k : Value → World → Prop} {w : World} {v : Value} (hc : (callFunc g args).run P w = .ok (.enter g args) w) (h : Calls P g args w fun e w' => e = .returned v ∧ w' = w) (hk : k v w) : CALL P g args k w :=
  ⟨.inl ⟨hc, h.mono fun e w' ⟨he, hw⟩ => ⟨v, he, hw ▸ hk⟩⟩⟩
section
variable {w : World} {l r : List HProp} {k : Value → World → Prop}
/-- Where a byte stands first; -1: nowhere. -/
abbrev ixB (s : List UInt8) (c : UInt8) : Int := Lib.indexByte s c
theorem indexByte_c {s : List UInt8} {c : UInt8} (hk : k (.int .i64 (ixB s c)) w) : CALL Tryz.prog 82 #[.string (St s), .int .u8 (c.toNat : Int)] k w := by
  have h := Any.strings_IndexByte Tryz.indexByteA (St s) (c.toNat : Int) w
  rw [St_list, show ((c.toNat : Int)).toNat.toUInt8 = c by simp] at h
  exact CALL.of (Tryz.call82 _ _) h hk
theorem indexL_c {s : List UInt8} {c : UInt8} (hk : k (.int .i64 (ixB s c)) w) : CALL Tryz.prog 135 #[.string (St s), .string (St [c])] k w := by
  have h := Any.stringslite_Index_one Tryz.indexLA (St s) c w
  rw [St_list] at h
  exact CALL.of (Tryz.call135 _ _) h hk
theorem contains_c {s : List UInt8} {c : UInt8} (hk : k (.bool (decide (0 ≤ ixB s c))) w) : CALL Tryz.prog 72 #[.string (St s), .string (St [c])] k w := by
  have h := Any.strings_Contains_one Tryz.containsA (St s) c w
  rw [St_list] at h
  exact CALL.of (Tryz.call72 _ _) h hk
theorem ixB_spec : ∀ (s : List UInt8) (c : UInt8), (ixB s c = -1 ∧ c ∉ s) ∨ ∃ i : Nat, ixB s c = i ∧ s[i]? = some c ∧ c ∉ s.take i
  | [], c => .inl ⟨rfl, by simp⟩
  | b :: s, c => by
    unfold ixB Lib.indexByte
    by_cases h : b = c
    · subst h; exact .inr ⟨0, by simp⟩
    · rcases ixB_spec s c with ⟨h1, h2⟩ | ⟨i, h1, h2, h3⟩
      · refine .inl ⟨?_, by simp [h2, Ne.symm h]⟩
        unfold ixB at h1
        simp [h, h1]
      · refine .inr ⟨i + 1, ?_, by simpa using h2, by simp [h3, Ne.symm h]⟩
        unfold ixB at h1
        simp [h, h1] <;> omega
theorem ixB_pos {s : List UInt8} {c : UInt8} : 0 ≤ ixB s c ↔ c ∈ s := by
  rcases ixB_spec s c with ⟨h1, h2⟩ | ⟨i, h1, h2, h3⟩
  · rw [h1]; simp [h2]
  · rw [h1]; simp only [Int.natCast_nonneg, true_iff]; exact List.mem_of_getElem? h2
end
end Go.Proofs.YtlefdgplobifiaaGreatDoor
