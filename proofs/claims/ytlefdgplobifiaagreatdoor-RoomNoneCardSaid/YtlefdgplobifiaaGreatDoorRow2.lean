/- Parts of rows: cut slices, copy. -/
import Derived.Test.YtlefdgplobifiaaGreatDoorRow
set_option linter.unusedVariables false
set_option linter.unusedSimpArgs false
namespace Go.Proofs.YtlefdgplobifiaaGreatDoor
open Go
section
variable {P : Program} {w w' : World} {l r : List HProp} {sz : Nat} {t : TypeId}
theorem slSub_lt {b o n c i h : Nat} (hi : i < c) : slSub (some ⟨b, o, none⟩, n, c) i h sz = (some ⟨b, o + i * sz, none⟩, h - i, c - i) := by
  unfold slSub
  have : ¬ c = i := by omega
  simp [this, Addr.add_mk]
theorem slSub_end {b o n c h : Nat} : slSub (some ⟨b, o, none⟩, n, c) c h sz = (some ⟨b, o, none⟩, h - c, 0) := by simp [slSub]
/-- The cells of a slice that was cut out of a block. -/
theorem cells_sub {b o n c i h m : Nat} {L : List Value} {fz : Nat × Nat} (hb : w.heap[b]? = some (.cells L.toArray t fz)) (hm : m = 0 ∨ (i < c ∧ o + i * sz + m * sz ≤ L.length)) :
    cellsOfS w (slSub (some ⟨b, o, none⟩, n, c) i h sz) (m * sz) = some ((L.drop (o + i * sz)).take (m * sz)) := by
  rcases hm with rfl | ⟨hi, hl⟩
  · simp only [slSub, Nat.zero_mul, List.take_zero]
    split <;> simp [cellsOfS, cellsAt]
  · rw [slSub_lt hi]
    show cellsAt w ⟨b, o + i * sz, none⟩ 0 (m * sz) = _
    rw [cellsAt_r hb (by simp; omega)]
    simp
/-- Into a slice that was cut out of a block. -/
theorem CPY_r {b o n c i h : Nat} {s : Sl} {L vs : List Value} {k : Int → World → Prop} (hw : SatL w (own Blk b (.cells L.toArray t (0, 0)) :: r))
    (hs : cellsOfS w s (min s.2.1 (h - i) * sz) = some vs) (hone : ∀ v ∈ vs, v.oneCell' = true) (hl : vs = [] ∨ (i < c ∧ o + i * sz + vs.length ≤ L.length))
    (hk : ∀ w', SatL w' (own Blk b (.cells (over L (o + i * sz) vs).toArray t (0, 0)) :: r) → k (min s.2.1 (h - i) : Nat) w') : CPY sz (slSub (some ⟨b, o, none⟩, n, c) i h sz) s k w := by
  have hd : (slSub (some ⟨b, o, none⟩, n, c) i h sz).2.1 = h - i := rfl
  refine ⟨vs, by rw [hd]; exact hs, ?_⟩
  rw [hd]
  rcases hl with rfl | ⟨hi, hl⟩
  · rw [over_nil] at hk
    unfold slSub
    split
    · exact hk _ hw
    · exact hk _ hw
  · rw [slSub_lt hi]
    exact stAll_r vs hw (by omega) hone hk
/-- append that cannot stay where it is. -/
theorem APP_grow {bytes m : Nat} {s : Sl} {zero vs old : List Value} {new : World → Option (List Value)} {k : Sl → World → Prop} (hw : SatL w l) (hz : zero.length = sz) (hnew : new w = some vs)
    (hold : cellsOfS w s (s.2.1 * sz) = some old) (hg : s.2.2 < s.2.1 + m) (hb0 : bytes ≠ 0) (hcap : (s.2.1 + m) * bytes ≤ 140737488355328)
    (hk : ∀ b c sp w', s.2.1 + m ≤ c → sp.length = (c - (s.2.1 + m)) * sz → SatL w' (own Blk b (.cells ((old ++ vs) ++ sp).toArray t (0, 0)) :: l) → k (some ⟨b, 0, none⟩, s.2.1 + m, c) w') : APP t sz bytes zero.toArray s m new k w := by
  refine ⟨vs, hnew, .inr ⟨hg, Go.growslice_fits hg hcap, hb0, old, hold, fun c hc => ?_⟩⟩
  have e : (old ++ vs).toArray ++ Builtin.zeroCells zero.toArray (c - (s.2.1 + m)) = ((old ++ vs) ++ (Builtin.zeroCells zero.toArray (c - (s.2.1 + m))).toList).toArray := by simp
  refine hk _ c (Builtin.zeroCells zero.toArray (c - (s.2.1 + m))).toList _ hc (by simp [Builtin.zeroCells, hz]) ?_
  rw [← e]
  exact (show SatL w.drew l from hw).alloc _
theorem over_ins (A B sp q : List Value) (hq : q.length ≤ sp.length) : over (over (A ++ B ++ sp) (A.length + q.length) B) A.length q = (A ++ q ++ B) ++ sp.drop q.length := by
  unfold over
  have h1 : (A ++ B ++ sp).drop (A.length + q.length + B.length) = sp.drop q.length := by
    rw [List.drop_append, List.drop_eq_nil_of_le (by simp <;> omega)]
    simp; congr 1; omega
  have h2 : ((A ++ B ++ sp).take (A.length + q.length)).length = A.length + q.length := by simp <;> omega
  rw [h1]
  have h3 : (List.take (A.length + q.length) (A ++ B ++ sp) ++ B ++ List.drop q.length sp).take A.length = A := by
    rw [List.append_assoc, List.take_append_of_le_length (by omega), List.take_take, Nat.min_eq_left (by omega), List.append_assoc, List.take_left]
  have h4 : (List.take (A.length + q.length) (A ++ B ++ sp) ++ B ++ List.drop q.length sp).drop (A.length + q.length) = B ++ List.drop q.length sp := by
    rw [List.append_assoc, List.drop_left' h2]
  rw [h3, h4]; simp
theorem over_at (A M C v : List Value) (h : v.length = M.length) : over (A ++ M ++ C) A.length v = A ++ v ++ C := by
  unfold over
  have h1 : (A ++ M ++ C).take A.length = A := by rw [List.append_assoc, List.take_left]
  have h2 : (A ++ M ++ C).drop (A.length + v.length) = C := List.drop_left' (by simp; omega)
  rw [h1, h2]
theorem over_two (A Z sp q B : List Value) (h : Z.length = q.length + B.length) : over (over (A ++ Z ++ sp) A.length q) (A.length + q.length) B = A ++ q ++ B ++ sp := by
  have e1 : A ++ Z ++ sp = A ++ Z.take q.length ++ (Z.drop q.length ++ sp) := by simp [List.append_assoc]; rw [← List.append_assoc, List.take_append_drop]
  rw [e1, over_at _ _ _ _ (by simp; omega)]
  have e2 : A ++ q ++ (Z.drop q.length ++ sp) = (A ++ q) ++ Z.drop q.length ++ sp := by simp
  rw [e2, ← List.length_append, over_at _ _ _ _ (by simp; omega)]
/-- append that stays where it is. -/
theorem APP_fit {b o n c m bytes : Nat} {zero : Array Value} {L vs : List Value} {new : World → Option (List Value)} {k : Sl → World → Prop} (hw : SatL w (own Blk b (.cells L.toArray t (0, 0)) :: r))
    (hnew : new w = some vs) (hfit : n + m ≤ c) (hl : o + n * sz + vs.length ≤ L.length) (hone : ∀ v ∈ vs, v.oneCell' = true)
    (hk : ∀ w', SatL w' (own Blk b (.cells (over L (o + n * sz) vs).toArray t (0, 0)) :: r) → k (some ⟨b, o, none⟩, n + m, c) w') : APP t sz bytes zero (some ⟨b, o, none⟩, n, c) m new k w := by
  refine ⟨vs, hnew, .inl ⟨hfit, ?_⟩⟩
  simp only
  rw [Addr.add_mk]
  exact stAll_r vs hw (by omega) hone hk
theorem CLR_r {b o n c i h : Nat} {zero : List Value} {L : List Value} {k : World → Prop} (hw : SatL w (own Blk b (.cells L.toArray t (0, 0)) :: r)) (hz : zero.length = sz) (hone : ∀ v ∈ zeroCellsL zero.toArray (h - i), v.oneCell' = true)
    (hl : i < h → i < c ∧ o + h * sz ≤ L.length) (hk : ∀ (L' : List Value) (w' : World), L'.length = L.length → L'.take (o + i * sz) = L.take (o + i * sz) → SatL w' (own Blk b (.cells L'.toArray t (0, 0)) :: r) → k w') :
    CLR zero.toArray (slSub (some ⟨b, o, none⟩, n, c) i h sz) k w := by
  unfold CLR
  have hd : (slSub (some ⟨b, o, none⟩, n, c) i h sz).2.1 = h - i := rfl
  rw [hd]
  by_cases h0 : h - i = 0
  · rw [if_pos h0]; exact hk L w rfl rfl hw
  · rw [if_neg h0]
    obtain ⟨h1, h2⟩ := hl (by omega)
    rw [slSub_lt h1]
    have hzl : (zeroCellsL zero.toArray (h - i)).length = (h - i) * sz := by simp [zeroCellsL, Builtin.zeroCells, hz]
    have h3 : o + i * sz + (h - i) * sz = o + h * sz := by rw [Nat.add_assoc, ← Nat.add_mul]; congr 2; omega
    refine stAll_r _ hw (by rw [hzl]; omega) hone fun w' hw' => hk _ _ (over_len (by rw [hzl]; omega)) ?_ hw'
    unfold over
    rw [List.append_assoc, List.take_append_of_le_length (by simp; omega), List.take_take]
    congr 1; omega
end
end Go.Proofs.YtlefdgplobifiaaGreatDoor
