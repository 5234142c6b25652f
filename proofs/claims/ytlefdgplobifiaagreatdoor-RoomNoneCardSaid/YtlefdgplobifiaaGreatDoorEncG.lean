/- Lists of structs of one width, in cells. -/
import Derived.Test.YtlefdgplobifiaaGreatDoorRow2
set_option linter.unusedVariables false
set_option linter.unusedSimpArgs false
namespace Go.Proofs.YtlefdgplobifiaaGreatDoor
open Go
def encF {α : Type} (f : α → List Value) (xs : List α) : List Value := xs.flatMap f
section
variable {α : Type} {f : α → List Value} {n : Nat}
theorem encF_nil : encF f [] = [] := rfl
theorem encF_cons (x : α) (xs : List α) : encF f (x :: xs) = f x ++ encF f xs := rfl
theorem encF_app (xs ys : List α) : encF f (xs ++ ys) = encF f xs ++ encF f ys := by simp [encF]
theorem encF_one_el (x : α) : encF f [x] = f x := by simp [encF]
theorem encF_len (hf : ∀ x, (f x).length = n) (xs : List α) : (encF f xs).length = xs.length * n := by
  induction xs with
  | nil => simp [encF]
  | cons x xs ih => rw [encF_cons, List.length_append, hf, ih, List.length_cons, Nat.succ_mul, Nat.add_comm]
theorem encF_take (hf : ∀ x, (f x).length = n) (xs : List α) (i : Nat) : (encF f xs).take (i * n) = encF f (xs.take i) := by
  induction xs generalizing i with
  | nil => simp [encF]
  | cons x xs ih =>
    cases i with
    | zero => simp [encF]
    | succ i =>
      rw [encF_cons, List.take_succ_cons, encF_cons, ← ih, Nat.succ_mul, Nat.add_comm, List.take_append, hf]
      rw [List.take_of_length_le (by rw [hf]; omega)]
      congr 2; omega
theorem encF_drop (hf : ∀ x, (f x).length = n) (xs : List α) (i : Nat) : (encF f xs).drop (i * n) = encF f (xs.drop i) := by
  induction xs generalizing i with
  | nil => simp [encF]
  | cons x xs ih =>
    cases i with
    | zero => simp
    | succ i =>
      rw [encF_cons, List.drop_succ_cons, ← ih, Nat.succ_mul, Nat.add_comm, List.drop_append, hf]
      rw [List.drop_of_length_le (by rw [hf]; omega)]
      simp
theorem encF_one (h1 : ∀ x, ∀ v ∈ f x, v.oneCell' = true) (xs : List α) : ∀ v ∈ encF f xs, v.oneCell' = true := by
  intro v hv
  obtain ⟨x, _, hx⟩ := List.mem_flatMap.1 hv
  exact h1 x v hx
theorem encF_get (hf : ∀ x, (f x).length = n) {xs : List α} {i j : Nat} {x : α} (h : xs[i]? = some x) (hj : j < n) : (encF f xs)[i * n + j]? = (f x)[j]? := by
  have h1 : ((encF f xs).drop (i * n))[j]? = (encF f xs)[i * n + j]? := by rw [List.getElem?_drop]
  rw [← h1, encF_drop hf]
  obtain ⟨hi, rfl⟩ := List.getElem?_eq_some_iff.1 h
  rw [List.drop_eq_getElem_cons hi, encF_cons, List.getElem?_append_left (by rw [hf]; exact hj)]
theorem encF_set (hf : ∀ x, (f x).length = n) {xs : List α} {i : Nat} {y : α} (hi : i < xs.length) (sp : List Value) : over (encF f xs ++ sp) (i * n) (f y) = encF f (xs.set i y) ++ sp := by
  have hl := encF_len hf xs
  have hm : i * n + n ≤ xs.length * n := by rw [← Nat.succ_mul]; exact Nat.mul_le_mul_right _ hi
  unfold over
  rw [hf, List.take_append_of_le_length (by omega), List.drop_append_of_le_length (by omega), encF_take hf, show i * n + n = (i + 1) * n by rw [Nat.succ_mul], encF_drop hf]
  rw [List.set_eq_take_append_cons_drop, if_pos hi, encF_app, encF_cons]
  simp
end
section
variable {α : Type} {f : α → List Value} {n : Nat} {w : World} {l r : List HProp} {t : TypeId} {s : Sl} {xs : List α}
/-- An element of a row, by its address. -/
theorem IX_enc (t : TypeId) {i : Int} {x : α} {k : Addr → Prop} (hf : ∀ x, (f x).length = n) (hw : SatL w l) [g : FindO l (Row n t) s (encF f xs) r] (h0 : 0 ≤ i) (hx : xs[i.toNat]? = some x) (hn : 0 < n)
    (hk : ∀ b sp c, s = (some ⟨b, 0, none⟩, xs.length, c) → (encF f xs ++ sp).length = c * n → SatL w (own Blk b (.cells (encF f xs ++ sp).toArray t (0, 0)) :: r) → (∀ j, j < n → (encF f xs ++ sp).toArray[i.toNat * n + j]? = (f x)[j]?) → k ⟨b, i.toNat * n, none⟩) : IX s i n k := by
  have h := hw.find (A := Row n t) s
  have hlt : i.toNat < xs.length := (List.getElem?_eq_some_iff.1 hx).1
  have hl := Row.len h
  rw [encF_len hf] at hl
  rcases Row.out h with ⟨rfl, h2, _⟩ | ⟨b, m, c, sp, rfl, h1, h2, h3, h4⟩
  · simp only [Nat.zero_mul] at hl
    rcases Nat.mul_eq_zero.1 hl with h | h <;> omega
  · simp only at hl
    have hm : xs.length = m := Nat.eq_of_mul_eq_mul_right hn hl
    subst hm
    refine ⟨_, rfl, h0, by simp only; omega, ?_⟩
    rw [Addr.add_mk, Nat.zero_add]
    refine hk b sp c rfl h2 h4 fun j hj => ?_
    have h5 : i.toNat * n + n ≤ xs.length * n := by rw [← Nat.succ_mul]; exact Nat.mul_le_mul_right _ hlt
    rw [List.getElem?_toArray, List.getElem?_append_left (by rw [encF_len hf]; omega), encF_get hf hx hj]
theorem Row.of_enc {b c : Nat} {sp : List Value} (hf : ∀ x, (f x).length = n) (h : SatL w (own Blk b (.cells (encF f xs ++ sp).toArray t (0, 0)) :: r)) (hc : (encF f xs ++ sp).length = c * n) (hn : 0 < n) : SatL w (own (Row n t) (some ⟨b, 0, none⟩, xs.length, c) (encF f xs) :: r) := by
  refine Row.mk h (encF_len hf xs) hc ?_
  rw [List.length_append, encF_len hf] at hc
  exact Nat.le_of_mul_le_mul_right (by omega : xs.length * n ≤ c * n) hn
theorem Row.enc_len (hf : ∀ x, (f x).length = n) (hn : 0 < n) (h : SatL w (own (Row n t) s (encF f xs) :: r)) : xs.length = s.2.1 := by
  have := Row.len h
  rw [encF_len hf] at this
  exact Nat.eq_of_mul_eq_mul_right hn this
theorem Row.le_cap (h : SatL w (own (Row n t) s (encF f xs) :: r)) : s.2.1 ≤ s.2.2 := by
  rcases Row.out h with ⟨rfl, _⟩ | ⟨_, _, _, _, rfl, _, _, h3, _⟩
  · exact Nat.le_refl _
  · exact h3
theorem slSub_len {s : Sl} {l h sz : Nat} : (slSub s l h sz).2.1 = h - l := rfl
/-- The cells of the elements from i to j. -/
theorem Row.sub_cells {i j : Nat} (hf : ∀ x, (f x).length = n) (hn : 0 < n) (h : SatL w (own (Row n t) s (encF f xs) :: r)) (hij : i ≤ j) (hj : j ≤ xs.length) : cellsOfS w (slSub s i j n) ((slSub s i j n).2.1 * n) = some (encF f ((xs.drop i).take (j - i))) := by
  have hl := Row.enc_len hf hn h
  rw [slSub_len]
  rcases Row.out h with ⟨rfl, h2, _⟩ | ⟨b, m, c, sp, rfl, h1, h2, h3, h4⟩
  · simp only at hl
    have hx : xs = [] := List.length_eq_zero_iff.1 hl
    subst hx
    have : j = 0 := by simpa using hj
    have : i = 0 := by omega
    subst i; subst j
    simp [slSub, cellsOfS, encF]
  · simp only at hl
    subst hl
    rw [cells_sub h4.get]
    · simp only [Nat.zero_add, Option.some.injEq]
      have h6 : i * n ≤ xs.length * n := Nat.mul_le_mul_right _ (by omega)
      have h7 : i * n + (j - i) * n ≤ xs.length * n := by rw [← Nat.add_mul]; exact Nat.mul_le_mul_right _ (by omega)
      rw [List.drop_append_of_le_length (by rw [encF_len hf]; omega), List.take_append_of_le_length (by rw [List.length_drop, encF_len hf]; omega), encF_drop hf, encF_take hf]
    · by_cases h5 : j - i = 0
      · exact .inl h5
      · have h7 : i * n + (j - i) * n ≤ xs.length * n := by rw [← Nat.add_mul]; exact Nat.mul_le_mul_right _ (by omega)
        exact .inr ⟨by omega, by rw [List.length_append, encF_len hf]; omega⟩
end
theorem zero_one {Z : Array Value} {n : Nat} (h : ∀ v ∈ Z.toList, v.oneCell' = true) (h0 : Z.size ≠ 0) : ∀ v ∈ zeroCellsL Z n, v.oneCell' = true := by
  intro v hv
  simp only [zeroCellsL, Builtin.zeroCells, Array.toList_map, List.mem_map] at hv
  obtain ⟨j, _, rfl⟩ := hv
  have hlt : j % Z.size < Z.size := Nat.mod_lt _ (by omega)
  rw [getElem!_pos Z _ hlt]
  exact h _ (by simp)
theorem encF_ins {α : Type} {f : α → List Value} {n : Nat} (hf : ∀ x, (f x).length = n) (xs : List α) (i : Nat) (y : α) : (encF f xs).take (i * n) ++ f y ++ (encF f xs).drop (i * n) = encF f (xs.take i ++ [y] ++ xs.drop i) := by
  rw [encF_take hf, encF_drop hf, encF_app, encF_app]
  simp [encF]
theorem encF_del {α : Type} {f : α → List Value} {n : Nat} (hf : ∀ x, (f x).length = n) (xs : List α) (i : Nat) : (encF f xs).take (i * n) ++ (encF f xs).drop (i * n + n) = encF f (xs.take i ++ xs.drop (i + 1)) := by
  rw [encF_take hf, show i * n + n = (i + 1) * n by rw [Nat.succ_mul], encF_drop hf, encF_app]
end Go.Proofs.YtlefdgplobifiaaGreatDoor
