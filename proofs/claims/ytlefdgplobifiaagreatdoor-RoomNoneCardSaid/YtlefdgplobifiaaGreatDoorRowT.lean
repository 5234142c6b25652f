/- What the rows of this seat have in common: the listed tables, the start that fits. -/
import Derived.Test.YtlefdgplobifiaaGreatDoorRowL
import Derived.Test.YtlefdgplobifiaaGreatDoorNoneL
import Derived.Test.YtlefdgplobifiaaGreatDoorTie
import Derived.Test.YtlefdgplobifiaaGreatDoorCards
import Derived.OpenShut
import Derived.LaidMore
import Derived.Lay
import Derived.SevenTiedAt
import Derived.Stop.Joined
set_option linter.unusedVariables false
namespace Go.Proofs.YtlefdgplobifiaaGreatDoor
open Go.ChangeShapes Go.WideShapes Go.ChangeAt Go.RowKit
/-- What all rows of this seat list. -/
def laid7 : List (String × DataW Unit) := [("math/bits.deBruijn32tab", Rows.laid_math_bits_deBruijn32tab), ("math/bits.deBruijn64tab", Rows.laid_math_bits_deBruijn64tab), ("internal/strconv.uint64pow10", Rows.laid_internal_strconv_uint64pow10), ("unicode/utf8.acceptRanges", Rows.laid_unicode_utf8_acceptRanges), ("strconv.ErrRange", Rows.laid_strconv_ErrRange), ("strconv.ErrSyntax", Rows.laid_strconv_ErrSyntax), ("unicode/utf8.first", Rows.laid_unicode_utf8_first)]
theorem tail1 {P : Program} {a : String × DataW Unit} {l : List (String × DataW Unit)} {W : World} (h : laidMet P (a :: l) W) : laidMet P l W := by
  obtain ⟨n, d⟩ := a
  obtain ⟨ps, ⟨g, t, cs, fuel, p, q, _, _, _, _, hq, rfl⟩, hn, hc⟩ := h
  exact ⟨q, hq, (List.nodup_append.1 hn).2.1, fun b off hm => hc b off (by simp [hm])⟩
theorem pow10_of {W : World} (h : laidMetH Tryz.prog laid7 W) : Pow10 W := by
  rw [MakeChecks.laidMetH_plain _ _ _ (by kernel_rfl)] at h
  have h2 := tail1 (tail1 h)
  exact Lib.tabIs_of_head (g := 0) (t := 160) (e := 143) (n := 20) (by kernel_rfl) (by kernel_rfl) Tryz.underlying160 Tryz.underlying143 (by kernel_rfl) (by kernel_rfl) (show laidMet Tryz.prog (("internal/strconv.uint64pow10", Lib.tabData .u64 Lib.pow10Tab) :: _) W from h2)
theorem laid7_met (os : Os) (args : Array Value) : laidMetH Tryz.prog laid7 ((World.laidAll Tryz.prog os laid7).forCall (fun _ _ => 0) ⟨#[], args, []⟩).memory := by
  rw [MakeChecks.laidMetH_plain _ _ _ (by kernel_rfl)]
  exact laidMet_laidAll _ (by kernel_rfl) (by kernel_rfl)
/-- A row's function is no wrapper, and wants no stand-in. -/
theorem one_cell {P : Program} {H : Type} {enc : TypeId × Value → H} {W : World} {base : Nat} {sp : Nat → Bool} {held : Bool} {n : Nat} {cs : List Value} {x : Option (DataW H × List MemPlace)} {t : TypeId} {o m : Nat} (hm : P.cellsOf t = m) (h : DataW.trod enc P W base sp held n t ((cs.drop o).take (P.cellsOf t)) = x) : DataW.trod enc P W base sp held n t ((cs.drop o).take m) = x := hm ▸ h
end Go.Proofs.YtlefdgplobifiaaGreatDoor
