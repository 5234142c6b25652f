/- slices.Clone (a template: M). -/
import Derived.Test.YtlefdgplobifiaaGreatDoorEncG
import Derived.Test.YtlefdgplobifiaaGreatDoorStr
import Derived.Test.YtlefdgplobifiaaGreatDoorGB
import Derived.Test.YtlefdgplobifiaaGreatDoorGC
import Derived.Test.YtlefdgplobifiaaGreatDoorGD
set_option linter.unusedVariables false
set_option linter.unusedSimpArgs false
namespace Go.Proofs.YtlefdgplobifiaaGreatDoor
open Go
section
variable {w : World} {l r r1 : List HProp} {k : Value → World → Prop} {s : Sl} {cs : List Value}
/-- Clone of a row. -/
theorem cloneM_c (hw : SatL w l) [f : FindO l (Row 3 39) s cs r] (hn : s.2.1 ≤ 100000000) (hone : ∀ v ∈ cs, v.oneCell' = true)
    (hk : ∀ s' w', s'.2.1 = s.2.1 → SatL w' (own (Row 3 39) s' cs :: own (Row 3 39) s cs :: r) → k (slv s') w') :
    CALL Tryz.prog 79 #[slv s] k w := by
  have h0 := hw.find (A := Row 3 39) s
  have hcl := Row.len h0
  apply f79.call
  unfold f79.b
  rcases Row.out h0 with ⟨rfl, rfl, _⟩ | ⟨b, n, c, sp, rfl, g1, g2, g3, g4⟩
  · exact brT rfl (hk (none, 0, 0) w rfl (by simpa using Row.nil h0))
  · refine brF rfl (AL_r h0 fun q w1 hw1 => ?_)
    simp only at hcl hn
    have h1 : SatL w1 (own (Row 3 39) (some ⟨q, 0, none⟩, 0, 0) [] :: own (Row 3 39) (some ⟨b, 0, none⟩, n, c) cs :: r) := Row.mk (sp := []) (cs := []) hw1 (by simp) (by simp) (Nat.le_refl _)
    have hB : cellsOfS w1 (some ⟨b, 0, none⟩, n, c) (n * 3) = some cs := by
      have := Row.cells h1.drop (m := n) (Nat.le_refl _)
      rw [← hcl, List.take_length] at this
      rw [← hcl]; exact this
    exact APP_r h1 (by simp) hB (by omega) hone (by omega) (by simp only; omega) fun s' w' hs' hw' => hk s' w' (by simpa using hs') (by simpa using hw')
end
end Go.Proofs.YtlefdgplobifiaaGreatDoor
