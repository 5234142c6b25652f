/- Items as pairs of numbers, in cells. -/
import Derived.Test.YtnaeabcaennbjaaCmp
set_option linter.unusedVariables false
set_option linter.unusedSimpArgs false
namespace Go.Proofs.Ytnaeabcaennbjaa
open Go
theorem take_one {α : Type} {l : List α} {i : Nat} {x : α} (h : l[i]? = some x) : l.take (i + 1) = l.take i ++ [x] := by rw [List.take_add_one, h]; rfl
def encI (x : Int × Int) : List Value := [.int .i64 x.1, .int .i64 x.2]
def encs (xs : List (Int × Int)) : List Value := xs.flatMap encI
theorem encs_nil : encs [] = [] := rfl
theorem encs_cons (x : Int × Int) (xs : List (Int × Int)) : encs (x :: xs) = .int .i64 x.1 :: .int .i64 x.2 :: encs xs := rfl
theorem encs_app (xs ys : List (Int × Int)) : encs (xs ++ ys) = encs xs ++ encs ys := by simp [encs]
theorem encs_len (xs : List (Int × Int)) : (encs xs).length = xs.length * 2 := by
  induction xs with
  | nil => rfl
  | cons x xs ih => simp only [encs_cons, List.length_cons, ih]; omega
theorem encs_take (xs : List (Int × Int)) (i : Nat) : (encs xs).take (i * 2) = encs (xs.take i) := by
  induction xs generalizing i with
  | nil => simp [encs_nil]
  | cons x xs ih =>
    cases i with
    | zero => simp [encs_nil]
    | succ i => rw [show (i + 1) * 2 = i * 2 + 2 by omega, encs_cons, List.take_succ_cons, List.take_succ_cons, ih, List.take_succ_cons, encs_cons]
theorem encs_drop (xs : List (Int × Int)) (i : Nat) : (encs xs).drop (i * 2) = encs (xs.drop i) := by
  induction xs generalizing i with
  | nil => simp [encs_nil]
  | cons x xs ih =>
    cases i with
    | zero => simp
    | succ i => rw [show (i + 1) * 2 = i * 2 + 2 by omega, encs_cons, List.drop_succ_cons, List.drop_succ_cons, ih, List.drop_succ_cons]
theorem encs_one (xs : List (Int × Int)) : ∀ v ∈ encs xs, v.oneCell' = true := by
  intro v hv
  simp only [encs, List.mem_flatMap, encI] at hv
  obtain ⟨x, _, hx⟩ := hv
  simp at hx
  rcases hx with rfl | rfl <;> rfl
theorem encs_get0 {xs : List (Int × Int)} {i : Nat} {x : Int × Int} (h : xs[i]? = some x) : (encs xs)[i * 2]? = some (.int .i64 x.1) := by
  induction xs generalizing i with
  | nil => simp at h
  | cons y xs ih =>
    cases i with
    | zero => simp at h; subst h; rfl
    | succ i => rw [show (i + 1) * 2 = i * 2 + 2 by omega, encs_cons, List.getElem?_cons_succ, List.getElem?_cons_succ]; exact ih (by simpa using h)
theorem encs_get1 {xs : List (Int × Int)} {i : Nat} {x : Int × Int} (h : xs[i]? = some x) : (encs xs)[i * 2 + 1]? = some (.int .i64 x.2) := by
  induction xs generalizing i with
  | nil => simp at h
  | cons y xs ih =>
    cases i with
    | zero => simp at h; subst h; rfl
    | succ i => rw [show (i + 1) * 2 + 1 = i * 2 + 1 + 2 by omega, encs_cons, List.getElem?_cons_succ, List.getElem?_cons_succ]; exact ih (by simpa using h)
/-- The order by time, then by key. -/
theorem cmpI_lt {a b : Int} : cmpI a b < 0 ↔ a < b := by
  unfold cmpI
  by_cases h : a < b
  · simp [h]
  · by_cases h2 : b < a <;> simp [h, h2]
theorem cmpI_zero {a b : Int} : cmpI a b = 0 ↔ a = b := by
  unfold cmpI
  by_cases h : a < b
  · simp [h]; omega
  · by_cases h2 : b < a
    · simp [h, h2]; omega
    · simp [h, h2]; omega
theorem cmpT_lt {k1 t1 k2 t2 : Int} : cmpT k1 t1 k2 t2 < 0 ↔ t1 < t2 ∨ (t1 = t2 ∧ k1 < k2) := by
  unfold cmpT
  by_cases h : cmpI t1 t2 = 0
  · rw [if_neg (by simpa using h), cmpI_lt]
    have := cmpI_zero.1 h
    omega
  · rw [if_pos h, cmpI_lt]
    have : t1 ≠ t2 := fun e => h (cmpI_zero.2 e)
    omega
theorem cmpT_zero {k1 t1 k2 t2 : Int} : cmpT k1 t1 k2 t2 = 0 ↔ t1 = t2 ∧ k1 = k2 := by
  unfold cmpT
  by_cases h : cmpI t1 t2 = 0
  · rw [if_neg (by simpa using h), cmpI_zero]
    have := cmpI_zero.1 h
    simp [this]
  · rw [if_pos h]
    have : t1 ≠ t2 := fun e => h (cmpI_zero.2 e)
    simp [h, this]
end Go.Proofs.Ytnaeabcaennbjaa
