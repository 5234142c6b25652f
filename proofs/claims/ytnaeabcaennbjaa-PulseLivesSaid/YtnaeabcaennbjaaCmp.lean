/- compare, at the timer's items. -/
import Derived.Test.YtnaeabcaennbjaaRow2
import Derived.Test.YtnaeabcaennbjaaGA
set_option linter.unusedVariables false
set_option linter.unusedSimpArgs false
namespace Go.Proofs.Ytnaeabcaennbjaa
open Go
def cmpI (a b : Int) : Int := if a < b then -1 else if b < a then 1 else 0
/-- By time, then by key. -/
def cmpT (k1 t1 k2 t2 : Int) : Int := if cmpI t1 t2 ≠ 0 then cmpI t1 t2 else cmpI k1 k2
theorem w64' {n : Int} (h : -9223372036854775808 ≤ n ∧ n ≤ 9223372036854775807) : IntKind.wrap .i64 n = n := by rw [IntKind.wrap_i64]; omega
section
variable {w : World} {l r : List HProp} {k : Value → World → Prop}
theorem nan_c {a : Int} (hk : k (.bool false) w) : CALL Try.prog 47 #[.int .i64 a] k w := by
  apply f47.call
  unfold f47.b
  simpa using hk
theorem cmp_c {a b : Int} (hk : k (.int .i64 (cmpI a b)) w) : CALL Try.prog 41 #[.int .i64 a, .int .i64 b] k w := by
  apply f41.call
  unfold f41.b
  refine nan_c ⟨_, rfl, nan_c ⟨_, rfl, brF rfl (brF rfl (brD (fun h => ?_) fun h => brD (fun h2 => ?_) fun h2 => ?_))⟩⟩
  · rw [show cmpI a b = -1 by simp [cmpI, h]] at hk; exact hk
  · rw [show cmpI a b = 1 by simp [cmpI, h, h2]] at hk; exact hk
  · rw [show cmpI a b = 0 by simp [cmpI, h, h2]] at hk; exact hk
theorem or_c {q : Nat} {a b : Int} (hw : SatL w l) [f : FindO l Blk q (.cells #[.int .i64 a, .int .i64 b] 3 (0, 0)) r]
    (hk : ∀ w', SatL w' (own Blk q (.cells #[.int .i64 a, .int .i64 b] 3 (0, 0)) :: r) → k (.int .i64 (if a ≠ 0 then a else b)) w') : CALL Try.prog 40 #[.slice (some ⟨q, 0, none⟩) 2 2] k w := by
  apply f40.call (l1 := (some ⟨q, 0, none⟩, 2, 2))
  unfold f40.b
  refine f40.L2_rule (fun n w => (n = 0 ∨ (n = 1 ∧ a = 0) ∨ (n = 2 ∧ a = 0 ∧ b = 0)) ∧ SatL w (own Blk q (.cells #[.int .i64 a, .int .i64 b] 3 (0, 0)) :: r)) (fun n _ => (2 - n).toNat) ⟨.inl rfl, hw.find (A := Blk) q⟩ ?_
  rintro n w ⟨hn, h⟩
  unfold f40.L2
  rcases hn with rfl | ⟨rfl, rfl⟩ | ⟨rfl, rfl, rfl⟩
  · refine brT (by simp) ⟨_, rfl, by omega, by simp, ?_⟩
    rw [Addr.add_mk]
    refine LD_r h (x := a) rfl ?_
    refine br (fun ha => ?_) fun ha => ?_
    · have ha : a ≠ 0 := by simpa using ha
      have := hk _ h
      rw [if_pos ha] at this; exact this
    · have ha : a = 0 := by simpa using ha
      exact f40.L2_next ⟨.inr (.inl ⟨by rw [w64'] <;> omega, ha⟩), h⟩ (by rw [w64'] <;> omega)
  · refine brT (by simp) ⟨_, rfl, by omega, by simp, ?_⟩
    rw [Addr.add_mk]
    refine LD_r h (x := b) rfl ?_
    refine br (fun ha => ?_) fun ha => ?_
    · have := hk _ h
      rw [if_neg (by simp)] at this; exact this
    · have ha : b = 0 := by simpa using ha
      exact f40.L2_next ⟨.inr (.inr ⟨by rw [w64'] <;> omega, rfl, ha⟩), h⟩ (by rw [w64'] <;> omega)
  · refine brF (by simp) ?_
    unfold f40.J1
    have := hk _ h
    simpa using this
theorem compare_c {k1 t1 k2 t2 : Int} (hw : SatL w l) (hk : ∀ w', SatL w' l → k (.int .i64 (cmpT k1 t1 k2 t2)) w') :
    CALL Try.prog 32 #[.agg #[.int .i64 k1, .int .i64 t1], .agg #[.int .i64 k2, .int .i64 t2]] k w := by
  apply f32.call
  unfold f32.b
  refine AL_r hw fun q w1 h1 => AL_r h1 fun q2 w2 h2 => DRC_r h2 fun w3 h3 => ?_
  simp only [Addr.add_mk]
  refine STL_r (x := t1) rfl (STL_r (x := t2) rfl (STL_r (x := k1) rfl (STL_r (x := k2) rfl ?_)))
  refine cmp_c ⟨_, rfl, h3, cmp_c ⟨_, rfl, AL_r h3 fun q3 w4 h4 => or_c h4 fun w5 h5 => ⟨_, rfl, hk _ h5.drop.drop.drop⟩⟩⟩
end
end Go.Proofs.Ytnaeabcaennbjaa
