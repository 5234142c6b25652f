/- Whole-block slices as chunks: their parts, append, copy. -/
import Derived.Test.YtlefdgplobifiaaGreatDoorSeg
import Derived.Laws.Append
set_option linter.unusedVariables false
set_option linter.unusedSimpArgs false
namespace Go.Proofs.YtlefdgplobifiaaGreatDoor
open Go
/-- A slice that is the whole of its block, of sz cells an element; cs: the cells of its elements. -/
def Row (sz : Nat) (t : TypeId) (s : Sl) (cs : List Value) : HProp := fun h =>
  (s = (none, 0, 0) ∧ cs = []) ∨ ∃ b n c sp, s = (some ⟨b, 0, none⟩, n, c) ∧ cs.length = n * sz ∧ (cs ++ sp).length = c * sz ∧ n ≤ c ∧ Blk b (.cells (cs ++ sp).toArray t (0, 0)) h
section
variable {P : Program} {w w' : World} {l r : List HProp} {sz : Nat} {t : TypeId} {s : Sl} {cs : List Value}
theorem Row.out (h : SatL w (own (Row sz t) s cs :: r)) : (s = (none, 0, 0) ∧ cs = [] ∧ SatL w r) ∨
    ∃ b n c sp, s = (some ⟨b, 0, none⟩, n, c) ∧ cs.length = n * sz ∧ (cs ++ sp).length = c * sz ∧ n ≤ c ∧ SatL w (own Blk b (.cells (cs ++ sp).toArray t (0, 0)) :: r) := by
  have hd := h.drop
  obtain ⟨x, y, h1, h2, h3, h4⟩ := h
  rcases h3 with ⟨h5, h6⟩ | ⟨b, n, c, sp, h5, h6, h7, h8, h9⟩
  · exact .inl ⟨h5, h6, hd⟩
  · exact .inr ⟨b, n, c, sp, h5, h6, h7, h8, x, y, h1, h2, h9, h4⟩
theorem Row.mk {b n c : Nat} {sp : List Value} (h : SatL w (own Blk b (.cells (cs ++ sp).toArray t (0, 0)) :: r)) (hl : cs.length = n * sz) (hc : (cs ++ sp).length = c * sz) (hn : n ≤ c) :
    SatL w (own (Row sz t) (some ⟨b, 0, none⟩, n, c) cs :: r) := h.mono fun x hx => .inr ⟨b, n, c, sp, rfl, hl, hc, hn, hx⟩
theorem Row.nil (h : SatL w r) : SatL w (own (Row sz t) (none, 0, 0) [] :: r) := by
  refine ⟨⟨fun _ => none, none⟩, HL.of w, ⟨fun _ => .inl rfl, .inl rfl⟩, HL.eq (fun n => by simp [HL.un]) (by simp [HL.un]), .inl ⟨rfl, rfl⟩, h⟩
theorem Row.len (h : SatL w (own (Row sz t) s cs :: r)) : cs.length = s.2.1 * sz := by
  rcases Row.out h with ⟨rfl, rfl, _⟩ | ⟨b, n, c, sp, rfl, h1, _⟩
  · simp
  · exact h1
theorem Row.cells (h : SatL w (own (Row sz t) s cs :: r)) {m : Nat} (hm : m ≤ s.2.1) : cellsOfS w s (m * sz) = some (cs.take (m * sz)) := by
  rcases Row.out h with ⟨rfl, rfl, _⟩ | ⟨b, n, c, sp, rfl, h1, h2, h3, h4⟩
  · simp [cellsOfS]
  · show cellsAt w ⟨b, 0, none⟩ 0 (m * sz) = _
    have hm : m ≤ n := hm
    have hle : m * sz ≤ n * sz := Nat.mul_le_mul_right _ hm
    rw [cellsAt_r h4.get (by simp only [List.size_toArray]; rw [List.length_append]; omega)]
    simp only [Nat.add_zero, List.drop_zero, Option.some.injEq]
    rw [List.take_append_of_le_length (by omega)]
/-- A part of a row read: elements from i on, as a slice that was cut from it. -/
theorem Row.cellsFrom (h : SatL w (own (Row sz t) s cs :: r)) {i m : Nat} (hm : i + m ≤ s.2.1) {c' : Nat} : cellsOfS w (s.1.map (·.add (i * sz)), m, c') (m * sz) = some ((cs.drop (i * sz)).take (m * sz)) := by
  rcases Row.out h with ⟨rfl, rfl, _⟩ | ⟨b, n, c, sp, rfl, h1, h2, h3, h4⟩
  · have hm0 : m = 0 := by simp at hm; omega
    subst hm0
    simp [cellsOfS]
  · simp only [Option.map_some, cellsOfS, Addr.add_mk]
    have hle : i * sz + m * sz ≤ n * sz := by rw [← Nat.add_mul]; exact Nat.mul_le_mul_right _ hm
    rw [cellsAt_r h4.get (by simp only [List.size_toArray]; rw [List.length_append]; omega)]
    simp only [Nat.zero_add, Nat.add_zero, Option.some.injEq]
    rw [List.drop_append_of_le_length (by omega), List.take_append_of_le_length (by simp; omega)]
theorem APP_r {bytes m : Nat} {zero vs : List Value} {new : World → Option (List Value)} {k : Sl → World → Prop} (hw : SatL w l) [f : FindO l (Row sz t) s cs r] (hz : zero.length = sz)
    (hnew : new w = some vs) (hvl : vs.length = m * sz) (hone : ∀ v ∈ vs, v.oneCell' = true) (hb0 : bytes ≠ 0) (hcap : (s.2.1 + m) * bytes ≤ 140737488355328)
    (hk : ∀ s' w', s'.2.1 = s.2.1 + m → SatL w' (own (Row sz t) s' (cs ++ vs) :: r) → k s' w') : APP t sz bytes zero.toArray s m new k w := by
  have hr := hw.find (A := Row sz t) s
  have hcl := Row.len hr
  refine ⟨vs, hnew, ?_⟩
  by_cases hfit : s.2.1 + m ≤ s.2.2
  · refine .inl ⟨hfit, ?_⟩
    rcases Row.out hr with ⟨rfl, rfl, h⟩ | ⟨b, n, c, sp, rfl, h1, h2, h3, h4⟩
    · simp at hfit
      subst hfit
      have : vs = [] := List.length_eq_zero_iff.1 (by simpa using hvl)
      subst this
      exact hk _ _ rfl (by simpa using Row.nil h)
    · simp only at hfit ⊢
      rw [Addr.add_mk]
      have hfit2 : n * sz + m * sz ≤ c * sz := by rw [← Nat.add_mul]; exact Nat.mul_le_mul_right _ hfit
      refine stAll_r vs h4 (by omega) hone fun w' hw' => hk _ _ rfl ?_
      have e : over (cs ++ sp) (0 + n * sz + 0) vs = (cs ++ vs) ++ sp.drop vs.length := by
        unfold over
        rw [show 0 + n * sz + 0 = cs.length by omega, List.take_left, List.drop_append]
        simp
      rw [e] at hw'
      refine Row.mk hw' (by simp [h1, hvl, Nat.add_mul]) ?_ hfit
      rw [← e, over_len (by omega)]; exact h2
  · refine .inr ⟨by omega, Go.growslice_fits (by omega) hcap, hb0, ?_⟩
    refine ⟨cs, by rw [Row.cells hr (Nat.le_refl _), ← hcl, List.take_length], fun c hc => hk _ _ rfl ?_⟩
    have hd : SatL w.drew r := hr.drop
    have e : (cs ++ vs).toArray ++ Builtin.zeroCells zero.toArray (c - (s.2.1 + m)) = ((cs ++ vs) ++ (Builtin.zeroCells zero.toArray (c - (s.2.1 + m))).toList).toArray := by simp
    have ha : SatL (w.drew.alloc (.cells ((cs ++ vs).toArray ++ Builtin.zeroCells zero.toArray (c - (s.2.1 + m))) t))
        (own Blk w.heap.size (.cells ((cs ++ vs) ++ (Builtin.zeroCells zero.toArray (c - (s.2.1 + m))).toList).toArray t (0, 0)) :: r) := by
      rw [← e]; exact hd.alloc _
    refine Row.mk ha (by simp [hcl, hvl, Nat.add_mul]) ?_ hc
    have e3 : (Builtin.zeroCells zero.toArray (c - (s.2.1 + m))).toList.length = (c - (s.2.1 + m)) * sz := by simp [Builtin.zeroCells, hz]
    rw [List.length_append, List.length_append, e3, hcl, hvl, ← Nat.add_mul, ← Nat.add_mul]
    congr 1; omega
end
end Go.Proofs.YtlefdgplobifiaaGreatDoor
