/- slices.Delete, one item (a template: M). -/
import Derived.Test.YtlefdgplobifiaaGreatDoorEncG
import Derived.Test.YtlefdgplobifiaaGreatDoorStr
import Derived.Test.YtlefdgplobifiaaGreatDoorGB
import Derived.Test.YtlefdgplobifiaaGreatDoorGC
import Derived.Test.YtlefdgplobifiaaGreatDoorGD
set_option linter.unusedVariables false
set_option linter.unusedSimpArgs false
namespace Go.Proofs.YtlefdgplobifiaaGreatDoor
open Go
section
variable {w : World} {l r r1 : List HProp} {k : Value → World → Prop} {s : Sl} {cs : List Value}
/-- Delete, one item. -/
theorem delM_c {i : Nat} (hw : SatL w l) [f : FindO l (Row 3 39) s cs r] (hi : i < s.2.1) (hn : s.2.1 ≤ 100000000) (hone : ∀ v ∈ cs, v.oneCell' = true)
    (hk : ∀ s' w', s'.2.1 = s.2.1 - 1 → SatL w' (own (Row 3 39) s' (cs.take (i * 3) ++ cs.drop (i * 3 + 3)) :: r) → k (slv s') w') :
    CALL Tryz.prog 56 #[slv s, .int .i64 i, .int .i64 (i + 1 : Nat)] k w := by
  have h0 := hw.find (A := Row 3 39) s
  have hcl := Row.len h0
  apply f56.call
  unfold f56.b
  rcases Row.out h0 with ⟨rfl, rfl, _⟩ | ⟨b, n, c, sp, rfl, g1, g2, g3, g4⟩
  · simp at hi
  · simp only at hi hn hcl ⊢
    have hL : (cs ++ sp).length = c * 3 := g2
    simp only [List.length_append] at hL
    have hz0 : slSub (some ⟨b, 0, none⟩, n, c) 0 i 3 = (some ⟨b, 0, none⟩, i, c) := by
      simp only [slSub, Nat.zero_mul, Nat.sub_zero, Option.map_some, Addr.add_mk, Nat.add_zero, ite_self]
    have hm : (slSub (some ⟨b, 0, none⟩, n, c) (i + 1) n 3).2.1 = n - (i + 1) := rfl
    simp only [Int.toNat_natCast, hz0, hm]
    refine RQ_r ⟨by omega, by omega⟩ (RQ_r ⟨by omega, by omega⟩ (RQ_r ⟨by omega, by omega⟩ (brF (by simp; omega) ?_)))
    refine DR_r g4 fun w1 hw1 => RQ_r ⟨by omega, by omega⟩ (RQ_r ⟨by omega, by omega⟩ ?_)
    have hB : cellsOfS w1 (slSub (some ⟨b, 0, none⟩, n, c) (i + 1) n 3) ((n - (i + 1)) * 3) = some (cs.drop (i * 3 + 3)) := by
      rw [cells_sub hw1.get (by by_cases h : n - (i + 1) = 0; exact .inl h; exact .inr ⟨by omega, by simp; omega⟩)]
      rw [Nat.zero_add, show (i + 1) * 3 = i * 3 + 3 by omega, List.drop_append_of_le_length (by omega), List.take_append_of_le_length (by simp; omega), List.take_of_length_le (by simp; omega)]
    refine APP_fit (o := 0) (vs := cs.drop (i * 3 + 3)) hw1 hB (by omega) (by simp; omega) (fun v hv => hone v (List.mem_of_mem_drop hv)) fun w2 hw2 => ?_
    have hn2 : i + (n - (i + 1)) = n - 1 := by omega
    simp only [hn2]
    refine RQ_r ⟨by omega, by omega⟩ (RQ_r ⟨by omega, by omega⟩ ?_)
    have hlt : (List.take (i * 3) cs).length = i * 3 := by simp; omega
    have e8 : over (cs ++ sp) (0 + i * 3) (cs.drop (i * 3 + 3)) = (cs.take (i * 3) ++ cs.drop (i * 3 + 3)) ++ (cs ++ sp).drop (i * 3 + (cs.length - (i * 3 + 3))) := by
      unfold over
      rw [Nat.zero_add, List.take_append_of_le_length (by omega), List.length_drop]
    rw [e8] at hw2
    have hlen2 : ((cs.take (i * 3) ++ cs.drop (i * 3 + 3)) ++ (cs ++ sp).drop (i * 3 + (cs.length - (i * 3 + 3)))).length = c * 3 := by simp; omega
    refine CLR_r (o := 0) hw2 (by simp) ?_ (fun _ => ⟨by omega, by rw [hlen2]; omega⟩) fun L' w3 hl3 ht3 hw3 => hk _ _ rfl ?_
    · exact zero_one (by simp [Value.oneCell']) (by simp)
    · have hx : (cs.take (i * 3) ++ cs.drop (i * 3 + 3)).length = (n - 1) * 3 := by simp; omega
      have e9 : L' = (cs.take (i * 3) ++ cs.drop (i * 3 + 3)) ++ L'.drop ((n - 1) * 3) := by
        have h1 := List.take_append_drop ((n - 1) * 3) L'
        rw [Nat.zero_add, List.take_left' hx] at ht3
        rw [ht3] at h1
        exact h1.symm
      rw [e9] at hw3
      exact Row.mk hw3 hx (by rw [← e9, hl3, hlen2]) (by omega)
end
end Go.Proofs.YtlefdgplobifiaaGreatDoor
