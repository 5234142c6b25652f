/- slices.overlaps at two blocks. -/
import Derived.Test.YtnaeabcaennbjaaRow2
import Derived.Test.YtnaeabcaennbjaaKit
import Derived.Lib.Overlaps
set_option linter.unusedVariables false
namespace Go.Proofs.Ytnaeabcaennbjaa
open Go
section
variable {w : World} {l r r1 : List HProp} {k : Value → World → Prop}
theorem shape_of {b : Nat} {cs : Array Value} {t : TypeId} {fz : Nat × Nat} (h : w.heap[b]? = some (.cells cs t fz)) : w.shape? b = some (t, cs.size) := by simp [World.shape?, h]
theorem ov42 {b b' off n c n' c' : Nat} {L L' : Array Value} {t t' : TypeId} (hw : SatL w (own Blk b (.cells L t (0, 0)) :: own Blk b' (.cells L' t' (0, 0)) :: r)) (hL : L'.size ≠ 0) (hk : k (.bool false) w) :
    CALL Try.prog 42 #[.slice (some ⟨b, 0, none⟩) n c, .slice (some ⟨b', off, none⟩) n' c'] k w := by
  refine ⟨.inr ⟨_, _, ?_, hk⟩⟩
  have h1 := hw.get
  have h2 := hw.swap.get
  rw [run_callFunc_extern Try.func42 (by kernel_rfl) (by kernel_rfl) (by kernel_rfl) (e := Extern.SlicesOverlaps.overlaps #[67, 67] #[4]) (by kernel_rfl),
    Lib.run_overlaps_apart w 67 4 72 (by kernel_rfl) 2 (fun w => by kernel_rfl) ⟨b, 0, none⟩ ⟨b', off, none⟩ n c n' c' hw.ne t t' L.size L'.size (shape_of h1) (shape_of h2) hL (frozen_of h1) (frozen_of h1)]
  rfl
end
end Go.Proofs.Ytnaeabcaennbjaa
