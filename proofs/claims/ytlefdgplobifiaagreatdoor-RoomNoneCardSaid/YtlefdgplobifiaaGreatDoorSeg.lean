/- Rows of cells: whole blocks as slices, a part written, a part read, append, copy; what a call by the kit's own contract leaves. -/
import Derived.Test.YtlefdgplobifiaaGreatDoorKit0
set_option linter.unusedVariables false
namespace Go.Proofs.YtlefdgplobifiaaGreatDoor
open Go
section
variable {P : Program} {w w' : World} {l r : List HProp}

/-- What lay, lies still, where a call wrote nothing below. -/
theorem SatL.of_below (h : SatL w l) (hb : Go.RowKit.Below w.heap.size w w') : SatL w' l := by
  obtain ⟨h1, h2, h3, h4, h5⟩ := hb
  have e : HL.of w' = HL.un ⟨fun n => if n < w.heap.size then none else w'.heap[n]?, none⟩ (HL.of w) := by
    refine HL.eq (fun n => ?_) ?_
    · simp only [HL.of, HL.un]
      by_cases hn : n < w.heap.size
      · simp [hn, h5 n hn]
      · simp [hn]
    · simp [HL.of, HL.un, h1, h2, h3]
  show sepL l (HL.of w')
  rw [e]
  refine sepL_more ⟨fun n => ?_, .inl rfl⟩ h
  by_cases hn : n < w.heap.size
  · left; simp [hn]
  · right; simp [HL.of]; omega

theorem SatL.of_below_blk {b : Nat} {o : Obj} (h : SatL w l) (hb : Go.RowKit.Below w.heap.size w w') (hn : w.heap.size ≤ b) (ho : w'.heap[b]? = some o) : SatL w' (own Blk b o :: l) := by
  obtain ⟨h1, h2, h3, h4, h5⟩ := hb
  refine ⟨⟨fun n => if n = b then some o else none, none⟩, HL.un ⟨fun n => if n < w.heap.size ∨ n = b then none else w'.heap[n]?, none⟩ (HL.of w), ⟨fun n => ?_, .inl rfl⟩, ?_, rfl, ?_⟩
  · by_cases hnb : n = b
    · right; subst hnb; simp [HL.un, HL.of]; omega
    · left; simp [hnb]
  · refine HL.eq (fun n => ?_) ?_
    · simp only [HL.of, HL.un]
      by_cases hnb : n = b
      · subst hnb; simp [ho]
      · by_cases hlt : n < w.heap.size
        · simp [hnb, hlt, h5 n hlt]
        · simp [hnb, hlt]
    · simp [HL.of, HL.un, h1, h2, h3]
  · refine sepL_more ⟨fun n => ?_, .inl rfl⟩ h
    by_cases hlt : n < w.heap.size
    · left; simp [hlt]
    · right; simp [HL.of]; omega

/-! ### Parts of a block -/
/-- A list with a part laid over it. -/
def over (cs : List Value) (i : Nat) (vs : List Value) : List Value := cs.take i ++ vs ++ cs.drop (i + vs.length)
theorem over_nil (cs : List Value) (i : Nat) : over cs i [] = cs := by simp [over]
theorem over_len {cs vs : List Value} {i : Nat} (h : i + vs.length ≤ cs.length) : (over cs i vs).length = cs.length := by simp [over]; omega
theorem over_cons {cs vs : List Value} {i : Nat} {v : Value} (h : i < cs.length) : over (cs.set i v) (i + 1) vs = over cs i (v :: vs) := by
  have e0 : cs.set i v = cs.take i ++ v :: cs.drop (i + 1) := by rw [List.set_eq_take_append_cons_drop]; simp [h]
  have hA : (cs.take i).length = i := by simp; omega
  have h1 : (cs.take i).take (i + 1) = cs.take i := by rw [List.take_take]; congr 1; omega
  have h2 : (cs.take i).drop (i + 1 + vs.length) = [] := by simp; omega
  unfold over
  rw [e0, List.take_append, List.drop_append, hA, h1, h2]
  have h3 : i + 1 - i = 1 := by omega
  have h4 : i + 1 + vs.length - i = vs.length + 1 := by omega
  have h5 : i + (v :: vs).length = i + 1 + vs.length := by simp; omega
  rw [h3, h4, h5]
  simp

theorem stAll_r {b : Nat} {t : TypeId} {k : World → Prop} : ∀ (vs : List Value) {i j : Nat} {cs : List Value} {w : World}, SatL w (own Blk b (.cells cs.toArray t (0, 0)) :: r) →
    i + j + vs.length ≤ cs.length → (∀ v ∈ vs, v.oneCell' = true) → (∀ w', SatL w' (own Blk b (.cells (over cs (i + j) vs).toArray t (0, 0)) :: r) → k w') → stAll ⟨b, i, none⟩ k vs j w
  | [], i, j, cs, w, hw, _, _, hk => by rw [over_nil] at hk; exact hk w hw
  | v :: vs, i, j, cs, w, hw, hl, ho, hk => by
    simp only [List.length_cons] at hl
    unfold stAll
    rw [Addr.add_mk]
    refine ST_r hw (by simp; omega) (ho v (by simp)) fun w' hw' => ?_
    simp only [List.setIfInBounds_toArray] at hw'
    refine stAll_r vs hw' (by simp; omega) (fun u hu => ho u (by simp [hu])) fun w'' hw'' => ?_
    rw [show i + (j + 1) = i + j + 1 by omega, over_cons (by omega)] at hw''
    exact hk _ hw''

theorem cellsAt_r {b : Nat} {cs : Array Value} {t : TypeId} {fz : Nat × Nat} (h : w.heap[b]? = some (.cells cs t fz)) :
    ∀ {n i j : Nat}, i + j + n ≤ cs.size → cellsAt w ⟨b, i, none⟩ j n = some ((cs.toList.drop (i + j)).take n)
  | 0, i, j, hl => by simp [cellsAt]
  | n + 1, i, j, hl => by
    unfold cellsAt
    rw [Addr.add_mk, cell_of h, cellsAt_r h (by omega)]
    have hlt : i + j < cs.size := by omega
    rw [Array.getElem?_eq_getElem hlt]
    simp only [Option.some.injEq]
    have hlt' : i + j < cs.toList.length := by simpa using hlt
    rw [List.drop_eq_getElem_cons hlt', List.take_succ_cons]
    simp only [Array.getElem_toList]
    rfl
end
end Go.Proofs.YtlefdgplobifiaaGreatDoor
