/- Changes of a room: the key. -/
import Derived.Test.YtlefdgplobifiaaGreatDoorModes
set_option linter.unusedVariables false
set_option linter.unusedSimpArgs false
namespace Go.Proofs.YtlefdgplobifiaaGreatDoor
open Go
structure Ch where
  on : Bool
  c : UInt8
  arg : List UInt8
def Ch.none : Ch := ⟨false, 0, []⟩
abbrev chV (x : Ch) (n : Int) : Value := .tuple #[.agg #[.bool x.on, .int .u8 (x.c.toNat : Int), .string (St x.arg)], .int .i64 n]
abbrev chA (x : Ch) : Value := .agg #[.bool x.on, .int .u8 (x.c.toNat : Int), .string (St x.arg)]
def RS.locked (s : RS) (x : Ch) : RS × Ch × Int :=
  if x.on then (if keyOK x.arg && decide (s.key = []) then ({ s with key := x.arg }, x, 0) else (s, .none, 475))
  else if s.key = [] then (s, .none, 0) else ({ s with key := [] }, { x with arg := [42] }, 0)
section
variable {w : World} {l r r1 : List HProp} {k : Value → World → Prop} {b : Nat} {s : RS} {id : Int} {W : World} {x : Ch}
theorem locked_c (hw : SatL w l) [f : FindO l RmC b s r] (hs : x.arg.length < 70368744177664) (hk : ∀ w', SatL w' (own RmC b (s.locked x).1 :: r) → k (chV (s.locked x).2.1 (s.locked x).2.2) w') : CALL Tryz.prog 42 #[.pointer (some ⟨b, 0, none⟩), chA x] k w := by
  obtain ⟨on, c, arg⟩ := x
  obtain ⟨sm, sb, bi, hso, h0⟩ := RmC.out (hw.find (A := RmC) b)
  clear hw
  show CALL Tryz.prog 42 #[.pointer (some ⟨b, 0, none⟩), .agg #[.bool on, .int .u8 (c.toNat : Int), .string (St arg)]] k w
  apply f42.call
  unfold f42.b
  unfold RS.locked at hk
  simp only at hk hs
  cases on with
  | true =>
    rw [if_pos rfl] at hk
    repeat (first | (refine brF rfl ?_) | (refine brT rfl ?_) | (refine NN_r ?_) | (apply LD_r (by assumption); case hi => rfl) | (refine DR_r (by assumption) ?_; intro w hw) | (refine AL_r (by assumption) ?_; intro q w hw) | (apply ST_r (by assumption); (case hi => simp); (case hv => rfl); intro w hw; (try simp only [List.setIfInBounds_toArray, List.set_cons_zero, List.set_cons_succ, Nat.reduceAdd, Nat.zero_add] at hw)))
    refine key_c (by assumption) (by omega) fun w h => ⟨_, rfl, brN (br (fun h1 => ?_) fun h1 => ?_)⟩
    · by_cases h2 : s.key = []
      · rw [if_pos (by simp [h1, h2])] at hk
        refine NN_r (LD_r (b := b) h (x := St s.key) rfl ?_)
        rw [show (⟨#[]⟩ : ByteArray) = St [] from rfl, St_eq]
        refine brN (brT (by simp [h2]) ?_)
        repeat (first | (refine brF rfl ?_) | (refine brT rfl ?_) | (refine NN_r ?_) | (apply LD_r (by assumption); case hi => rfl) | (refine DR_r (by assumption) ?_; intro w hw) | (refine AL_r (by assumption) ?_; intro q w hw) | (apply ST_r (by assumption); (case hi => simp); (case hv => rfl); intro w hw; (try simp only [List.setIfInBounds_toArray, List.set_cons_zero, List.set_cons_succ, Nat.reduceAdd, Nat.zero_add] at hw)))
        refine hk _ (RmC.mk (s := { s with key := arg }) (sm := sm) (sb := sb) (bi := bi) ?_ hso)
        dsimp only
        exact SatL.sub (by assumption)
      · rw [if_neg (by simp [h2])] at hk
        refine NN_r (LD_r (b := b) h (x := St s.key) rfl ?_)
        rw [show (⟨#[]⟩ : ByteArray) = St [] from rfl, St_eq]
        refine brN (brF (by simp [h2]) ?_)
        repeat (first | (refine brF rfl ?_) | (refine brT rfl ?_) | (refine NN_r ?_) | (apply LD_r (by assumption); case hi => rfl) | (refine DR_r (by assumption) ?_; intro w hw) | (refine AL_r (by assumption) ?_; intro q w hw) | (apply ST_r (by assumption); (case hi => simp); (case hv => rfl); intro w hw; (try simp only [List.setIfInBounds_toArray, List.set_cons_zero, List.set_cons_succ, Nat.reduceAdd, Nat.zero_add] at hw)))
        refine hk _ (RmC.mk (s := s) (sm := sm) (sb := sb) (bi := bi) ?_ hso)
        exact SatL.sub (by assumption)
    · rw [if_neg (by simp [h1])] at hk
      repeat (first | (refine brF rfl ?_) | (refine brT rfl ?_) | (refine NN_r ?_) | (apply LD_r (by assumption); case hi => rfl) | (refine DR_r (by assumption) ?_; intro w hw) | (refine AL_r (by assumption) ?_; intro q w hw) | (apply ST_r (by assumption); (case hi => simp); (case hv => rfl); intro w hw; (try simp only [List.setIfInBounds_toArray, List.set_cons_zero, List.set_cons_succ, Nat.reduceAdd, Nat.zero_add] at hw)))
      refine hk _ (RmC.mk (s := s) (sm := sm) (sb := sb) (bi := bi) ?_ hso)
      exact SatL.sub (by assumption)
  | false =>
    rw [if_neg (by decide)] at hk
    repeat (first | (refine brF rfl ?_) | (refine brT rfl ?_) | (refine NN_r ?_) | (apply LD_r (by assumption); case hi => rfl) | (refine DR_r (by assumption) ?_; intro w hw) | (refine AL_r (by assumption) ?_; intro q w hw) | (apply ST_r (by assumption); (case hi => simp); (case hv => rfl); intro w hw; (try simp only [List.setIfInBounds_toArray, List.set_cons_zero, List.set_cons_succ, Nat.reduceAdd, Nat.zero_add] at hw)))
    rw [show (⟨#[]⟩ : ByteArray) = St [] from rfl, St_eq]
    refine brD (fun h2 => ?_) fun h2 => ?_
    · rw [if_pos h2] at hk
      repeat (first | (refine brF rfl ?_) | (refine brT rfl ?_) | (refine NN_r ?_) | (apply LD_r (by assumption); case hi => rfl) | (refine DR_r (by assumption) ?_; intro w hw) | (refine AL_r (by assumption) ?_; intro q w hw) | (apply ST_r (by assumption); (case hi => simp); (case hv => rfl); intro w hw; (try simp only [List.setIfInBounds_toArray, List.set_cons_zero, List.set_cons_succ, Nat.reduceAdd, Nat.zero_add] at hw)))
      refine hk _ (RmC.mk (s := s) (sm := sm) (sb := sb) (bi := bi) ?_ hso)
      exact SatL.sub (by assumption)
    · rw [if_neg h2] at hk
      repeat (first | (refine brF rfl ?_) | (refine brT rfl ?_) | (refine NN_r ?_) | (apply LD_r (by assumption); case hi => rfl) | (refine DR_r (by assumption) ?_; intro w hw) | (refine AL_r (by assumption) ?_; intro q w hw) | (apply ST_r (by assumption); (case hi => simp); (case hv => rfl); intro w hw; (try simp only [List.setIfInBounds_toArray, List.set_cons_zero, List.set_cons_succ, Nat.reduceAdd, Nat.zero_add] at hw)))
      refine hk _ (RmC.mk (s := { s with key := [] }) (sm := sm) (sb := sb) (bi := bi) ?_ hso)
      dsimp only
      exact SatL.sub (by assumption)
end
end Go.Proofs.YtlefdgplobifiaaGreatDoor
