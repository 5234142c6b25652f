/- The package valid: kinds of bytes, Clean, Key. -/
import Derived.Test.YtlefdgplobifiaaGreatDoorLibS
import Derived.Test.YtlefdgplobifiaaGreatDoorBld
import Derived.Test.YtlefdgplobifiaaGreatDoorGB
import Derived.Test.YtlefdgplobifiaaGreatDoorGC
import Derived.Test.YtlefdgplobifiaaGreatDoorGD
import Derived.Test.YtlefdgplobifiaaGreatDoorGH
set_option linter.unusedVariables false
set_option linter.unusedSimpArgs false
namespace Go.Proofs.YtlefdgplobifiaaGreatDoor
open Go
def isLet (n : Int) : Bool := (decide (97 ≤ n) && decide (n ≤ 122)) || (decide (65 ≤ n) && decide (n ≤ 90))
def inRow (row : List UInt8) (n : Int) : Bool := decide (0 ≤ ixB row (UInt8.ofNat n.toNat))
def orW (c : Bool) (x m : Int) : Int := if c then intBit .or .u16 x m else x
def kv (n : Int) : Int :=
  orW (!inRow [0, 10, 13] n) (orW ((decide (33 ≤ n) && decide (n ≤ 126)) && n != 44) (orW (isLet n || (decide (48 ≤ n) && decide (n ≤ 57)) || inRow [46, 45, 58] n)
    (orW ((decide (33 ≤ n) && decide (n ≤ 126)) && !inRow [33, 64, 42, 63, 58] n) (orW (!inRow [0, 7, 10, 13, 32, 44, 58] n) (orW ((decide (48 ≤ n) && decide (n ≤ 57)) || n == 45)
      (orW (isLet n || inRow [91, 93, 92, 95, 94, 123, 124, 125, 96] n) 0 3) 2) 4) 8) 16) 32) 64
section
variable {w : World} {l r : List HProp} {k : Value → World → Prop}
theorem letter_c {n : Int} (hk : k (.bool (isLet n)) w) : CALL Tryz.prog 113 #[.int .i64 n] k w := by
  apply f113.call
  unfold f113.b
  unfold isLet at hk
  refine brD (fun h1 => brD (fun h2 => ?_) fun h2 => brD (fun h3 => ?_) fun h3 => ?_) fun h1 => brD (fun h3 => ?_) fun h3 => ?_
  · simpa [h1, h2] using hk
  · simpa [h1, h2, h3] using hk
  · simpa [h1, h2, h3] using hk
  · simpa [h1, h3] using hk
  · simpa [h1, h3] using hk
theorem has_c {row : List UInt8} {n : Int} (hn : 0 ≤ n ∧ n < 256) (hk : k (.bool (inRow row n)) w) : CALL Tryz.prog 114 #[.string (St row), .int .i64 n] k w := by
  apply f114.call
  unfold f114.b
  rw [w8, show n % 256 = ((UInt8.ofNat n.toNat).toNat : Int) by rw [UInt8.toNat_ofNat']; omega]
  exact indexByte_c ⟨_, rfl, hk⟩
theorem or_step {cs : List Value} {n q : Nat} {x m : Int} {t : TypeId} {K : World → Prop} (hw : SatL w (own Blk q (.cells (cs.set n (.int .u16 x)).toArray t (0, 0)) :: r)) (hl : cs.length = 256) (hn : n < 256)
    (hk : ∀ w', SatL w' (own Blk q (.cells (cs.set n (.int .u16 (intBit .or .u16 x m))).toArray t (0, 0)) :: r) → K w') :
    RQ (0 ≤ (n : Int) ∧ (n : Int) < ((256 : Nat) : Int)) (LD (Value.int .u16) (Addr.add ⟨q, 0, none⟩ (Int.toNat (n : Int) * 1)) (fun y w => RQ (0 ≤ (n : Int) ∧ (n : Int) < ((256 : Nat) : Int)) (ST (Addr.add (Addr.add ⟨q, 0, none⟩ (Int.toNat (n : Int) * 1)) 0) (.int .u16 (intBit .or .u16 y m)) K w)) w) := by
  refine RQ_r (by omega) ?_
  simp only [Addr.add_mk, Int.toNat_natCast, Nat.mul_one, Nat.zero_add, Nat.add_zero]
  refine LD_r hw (x := x) (by simp [hl, hn]) (RQ_r (by omega) (ST_r hw (by simp [hl, hn]) rfl fun w h => hk _ ?_))
  simpa using h
/-- The kinds, up to the i-th byte. -/
def kindL (i : Nat) : List Value := (List.range 256).map fun j => .int .u16 (if j < i then kv j else 0)
theorem kindL_len (i : Nat) : (kindL i).length = 256 := by simp [kindL]
theorem kindL_zero : kindL 0 = List.replicate 256 (.int .u16 0) := by
  apply List.ext_getElem (by rw [kindL_len, List.length_replicate])
  intro j h1 h2
  simp only [kindL, List.getElem_map, List.getElem_range, Nat.not_lt_zero, if_false, List.getElem_replicate]
theorem kindL_same {i : Nat} (h : i < 256) : (kindL i).set i (.int .u16 0) = kindL i := by
  apply List.ext_getElem (by simp)
  intro j h1 h2
  rw [List.getElem_set]
  split
  · rename_i e; subst e; simp [kindL]
  · rfl
theorem kindL_next {i : Nat} (h : i < 256) : (kindL i).set i (.int .u16 (kv i)) = kindL (i + 1) := by
  apply List.ext_getElem (by simp [kindL])
  intro j h1 h2
  rw [List.getElem_set]
  split
  · rename_i e; subst e; simp [kindL]
  · rename_i e
    simp only [kindL, List.getElem_map, List.getElem_range]
    have : (j < i) ↔ (j < i + 1) := by omega
    simp [this]
theorem kindL_get {i : Nat} (h : i < 256) : (kindL 256)[i]? = some (.int .u16 (kv i)) := by
  simp [kindL, h]
theorem LDA_r {b : Nat} {cs : Array Value} {t : TypeId} {fz : Nat × Nat} {k : Array Value → World → Prop} (hw : SatL w l) [f : FindO l Blk b (.cells cs t fz) r] {n : Nat} (hn : cs.size = n) (hk : k cs w) : LDA n ⟨b, 0, none⟩ k w := by
  subst hn
  refine ⟨cs, rfl, ?_, hk⟩
  rw [cellsAt_r (hw.find (A := Blk) b).get (by simp)]
  simp only [Nat.add_zero, List.drop_zero, ← Array.length_toList, List.take_length]
theorem stAll_all {b : Nat} {t : TypeId} {vs cs : List Value} {K : World → Prop} (hw : SatL w (own Blk b (.cells cs.toArray t (0, 0)) :: r)) (hl : cs.length = vs.length) (ho : ∀ v ∈ vs, v.oneCell' = true)
    (hk : ∀ w', SatL w' (own Blk b (.cells vs.toArray t (0, 0)) :: r) → K w') : stAll ⟨b, 0, none⟩ K vs 0 w := by
  refine stAll_r vs hw (by omega) ho fun w' h => hk _ ?_
  have e : over cs (0 + 0) vs = vs := by
    unfold over
    rw [List.drop_of_length_le (by omega)]
    simp
  rwa [e] at h
theorem kindL_one (i : Nat) : ∀ v ∈ kindL i, v.oneCell' = true := by
  intro v hv
  simp only [kindL, List.mem_map] at hv
  obtain ⟨_, _, rfl⟩ := hv
  rfl
set_option maxRecDepth 4000 in
theorem kinds_c (hw : SatL w l) (hk : ∀ w', SatL w' l → k (.agg (kindL 256).toArray) w') : CALL Tryz.prog 88 #[] k w := by
  apply f88.call
  unfold f88.b
  refine AL_r hw fun q1 w h => AL_r h fun q2 w h => ?_
  have e0 : (Array.replicate 256 (Value.int .u16 0)) = (kindL 0).toArray := by rw [kindL_zero, List.toArray_replicate]
  rw [e0] at h
  obtain ⟨I, hI⟩ : ∃ I : Int → World → Prop, I = fun (i : Int) (w : World) => ∃ j : Nat, i = (j : Int) ∧ j ≤ 256 ∧ SatL w (own Blk q2 (.cells (kindL j).toArray 117 (0, 0)) :: own Blk q1 (.cells (kindL 0).toArray 117 (0, 0)) :: l) := ⟨_, rfl⟩
  refine f88.L2_rule I (fun i _ => (256 - i).toNat) (by rw [hI]; exact ⟨0, rfl, by omega, h⟩) ?_
  intro i w hIw
  rw [hI] at hIw
  obtain ⟨j, hij, hj, h⟩ := hIw
  subst hij
  clear hw
  unfold f88.L2
  refine brD (fun h1 => ?_) fun h1 => ?_
  · have hj : j < 256 := by omega
    have hL := kindL_len j
    rw [← kindL_same hj] at h
    have fin : ∀ w', SatL w' (own Blk q2 (.cells ((kindL j).set j (.int .u16 (kv j))).toArray 117 (0, 0)) :: own Blk q1 (.cells (kindL 0).toArray 117 (0, 0)) :: l) → f88.L2K q1 q2 I (fun i _ => (256 - i).toNat) ((256 - (j : Int)).toNat) q1 q2 (IntKind.wrap .i64 ((j : Int) + 1)) w' := fun w' h' => by
      rw [kindL_next hj] at h'
      exact f88.L2_next (by rw [hI]; exact ⟨j + 1, by rw [w64'] <;> omega, by omega, h'⟩) (by rw [w64'] <;> omega)
    have hn : (0 : Int) ≤ (j : Int) ∧ (j : Int) < 256 := by omega
    obtain ⟨At, hAt⟩ : ∃ At : Int → World → Prop, At = fun x w => SatL w (own Blk q2 (.cells ((kindL j).set j (.int .u16 x)).toArray 117 (0, 0)) :: own Blk q1 (.cells (kindL 0).toArray 117 (0, 0)) :: l) := ⟨_, rfl⟩
    obtain ⟨Kn, hKn⟩ : ∃ Kn : Nat → Nat → Int → World → Prop, Kn = f88.L2K q1 q2 I (fun i _ => (256 - i).toNat) ((256 - (j : Int)).toNat) := ⟨_, rfl⟩
    rw [← hKn] at fin
    have step : ∀ (c : Bool) (x m : Int) (K : World → Prop) (w : World), (∀ w, At (orW c x m) w → K w) → At x w → (c = true → RQ (0 ≤ (j : Int) ∧ (j : Int) < ((256 : Nat) : Int)) (LD (Value.int .u16) (Addr.add ⟨q2, 0, none⟩ (Int.toNat (j : Int) * 1)) (fun y w => RQ (0 ≤ (j : Int) ∧ (j : Int) < ((256 : Nat) : Int)) (ST (Addr.add (Addr.add ⟨q2, 0, none⟩ (Int.toNat (j : Int) * 1)) 0) (.int .u16 (intBit .or .u16 y m)) K w)) w)) ∧ (c = false → K w) := by
      intro c x m K w hK h
      subst hAt
      constructor
      · rintro rfl
        exact or_step h hL hj fun w h => hK w h
      · rintro rfl
        exact hK w h
    have J11 : ∀ x w, (∀ w, At (orW (!inRow [0, 10, 13] j) x 64) w → Kn q1 q2 (IntKind.wrap .i64 ((j : Int) + 1)) w) → At x w → f88.J11 q1 q2 j j Kn k w := by
      intro x w hK h
      unfold f88.J11
      have s := step _ x 64 (fun w => f88.J3 q1 q2 j Kn k w) w hK h
      exact has_c hn ⟨_, rfl, br s.1 s.2⟩
    have J10 : ∀ x w, (∀ w, At (orW (!inRow [0, 10, 13] j) (orW ((decide (33 ≤ (j : Int)) && decide ((j : Int) ≤ 126)) && (j : Int) != 44) x 32) 64) w → Kn q1 q2 (IntKind.wrap .i64 ((j : Int) + 1)) w) → At x w → f88.J10 q1 q2 j (decide (33 ≤ (j : Int)) && decide ((j : Int) ≤ 126)) j Kn k w := by
      intro x w hK h
      unfold f88.J10
      have s := step ((decide (33 ≤ (j : Int)) && decide ((j : Int) ≤ 126)) && (j : Int) != 44) x 32 (fun w => f88.J11 q1 q2 j j Kn k w) w (fun w h => J11 _ w hK h) h
      exact br (fun h1 => br (fun h2 => s.1 (by rw [h1, h2]; rfl)) fun h2 => s.2 (by rw [h1, h2]; rfl)) fun h1 => s.2 (by rw [h1]; rfl)
    have J9 : ∀ x w, (∀ w, At (orW (!inRow [0, 10, 13] j) (orW ((decide (33 ≤ (j : Int)) && decide ((j : Int) ≤ 126)) && (j : Int) != 44) (orW (isLet j || (decide (48 ≤ (j : Int)) && decide ((j : Int) ≤ 57)) || inRow [46, 45, 58] j) x 16) 32) 64) w → Kn q1 q2 (IntKind.wrap .i64 ((j : Int) + 1)) w) → At x w →
        f88.J9 q1 q2 j (decide (48 ≤ (j : Int)) && decide ((j : Int) ≤ 57)) (decide (33 ≤ (j : Int)) && decide ((j : Int) ≤ 126)) j Kn k w := by
      intro x w hK h
      unfold f88.J9
      have s := step (isLet j || (decide (48 ≤ (j : Int)) && decide ((j : Int) ≤ 57)) || inRow [46, 45, 58] j) x 16 (fun w => f88.J10 q1 q2 j (decide (33 ≤ (j : Int)) && decide ((j : Int) ≤ 126)) j Kn k w) w (fun w h => J10 _ w hK h) h
      refine letter_c ⟨_, rfl, br (fun h1 => s.1 (by rw [h1]; rfl)) fun h1 => br (fun h2 => s.1 (by rw [h1, h2]; rfl)) fun h2 => has_c hn ⟨_, rfl, br (fun h3 => s.1 (by rw [h1, h2, h3]; rfl)) fun h3 => s.2 (by rw [h1, h2, h3]; rfl)⟩⟩
    have J8 : ∀ x w, (∀ w, At (orW (!inRow [0, 10, 13] j) (orW ((decide (33 ≤ (j : Int)) && decide ((j : Int) ≤ 126)) && (j : Int) != 44) (orW (isLet j || (decide (48 ≤ (j : Int)) && decide ((j : Int) ≤ 57)) || inRow [46, 45, 58] j)
        (orW ((decide (33 ≤ (j : Int)) && decide ((j : Int) ≤ 126)) && !inRow [33, 64, 42, 63, 58] j) x 8) 16) 32) 64) w → Kn q1 q2 (IntKind.wrap .i64 ((j : Int) + 1)) w) → At x w →
        f88.J8 q1 q2 j (decide (48 ≤ (j : Int)) && decide ((j : Int) ≤ 57)) (decide (33 ≤ (j : Int)) && decide ((j : Int) ≤ 126)) j Kn k w := by
      intro x w hK h
      unfold f88.J8
      have s := step ((decide (33 ≤ (j : Int)) && decide ((j : Int) ≤ 126)) && !inRow [33, 64, 42, 63, 58] j) x 8 (fun w => f88.J9 q1 q2 j (decide (48 ≤ (j : Int)) && decide ((j : Int) ≤ 57)) (decide (33 ≤ (j : Int)) && decide ((j : Int) ≤ 126)) j Kn k w) w (fun w h => J9 _ w hK h) h
      exact br (fun h1 => has_c hn ⟨_, rfl, br (fun h2 => s.1 (by rw [h1, h2]; rfl)) fun h2 => s.2 (by rw [h1, h2]; rfl)⟩) fun h1 => s.2 (by rw [h1]; rfl)
    have J7 : ∀ x w, (∀ w, At (orW (!inRow [0, 10, 13] j) (orW ((decide (33 ≤ (j : Int)) && decide ((j : Int) ≤ 126)) && (j : Int) != 44) (orW (isLet j || (decide (48 ≤ (j : Int)) && decide ((j : Int) ≤ 57)) || inRow [46, 45, 58] j)
        (orW ((decide (33 ≤ (j : Int)) && decide ((j : Int) ≤ 126)) && !inRow [33, 64, 42, 63, 58] j) (orW (!inRow [0, 7, 10, 13, 32, 44, 58] j) x 4) 8) 16) 32) 64) w → Kn q1 q2 (IntKind.wrap .i64 ((j : Int) + 1)) w) → At x w →
        f88.J7 q1 q2 j (decide (48 ≤ (j : Int)) && decide ((j : Int) ≤ 57)) (decide (33 ≤ (j : Int)) && decide ((j : Int) ≤ 126)) j Kn k w := by
      intro x w hK h
      unfold f88.J7
      have s := step (!inRow [0, 7, 10, 13, 32, 44, 58] j) x 4 (fun w => f88.J8 q1 q2 j (decide (48 ≤ (j : Int)) && decide ((j : Int) ≤ 57)) (decide (33 ≤ (j : Int)) && decide ((j : Int) ≤ 126)) j Kn k w) w (fun w h => J8 _ w hK h) h
      exact has_c hn ⟨_, rfl, br s.1 s.2⟩
    have J6 : ∀ x w, (∀ w, At (orW (!inRow [0, 10, 13] j) (orW ((decide (33 ≤ (j : Int)) && decide ((j : Int) ≤ 126)) && (j : Int) != 44) (orW (isLet j || (decide (48 ≤ (j : Int)) && decide ((j : Int) ≤ 57)) || inRow [46, 45, 58] j)
        (orW ((decide (33 ≤ (j : Int)) && decide ((j : Int) ≤ 126)) && !inRow [33, 64, 42, 63, 58] j) (orW (!inRow [0, 7, 10, 13, 32, 44, 58] j) (orW ((decide (48 ≤ (j : Int)) && decide ((j : Int) ≤ 57)) || (j : Int) == 45) x 2) 4) 8) 16) 32) 64) w → Kn q1 q2 (IntKind.wrap .i64 ((j : Int) + 1)) w) → At x w →
        f88.J6 q1 q2 j (decide (48 ≤ (j : Int)) && decide ((j : Int) ≤ 57)) (decide (33 ≤ (j : Int)) && decide ((j : Int) ≤ 126)) j Kn k w := by
      intro x w hK h
      unfold f88.J6
      have s := step ((decide (48 ≤ (j : Int)) && decide ((j : Int) ≤ 57)) || (j : Int) == 45) x 2 (fun w => f88.J7 q1 q2 j (decide (48 ≤ (j : Int)) && decide ((j : Int) ≤ 57)) (decide (33 ≤ (j : Int)) && decide ((j : Int) ≤ 126)) j Kn k w) w (fun w h => J7 _ w hK h) h
      exact br (fun h1 => s.1 (by rw [h1]; rfl)) fun h1 => br (fun h2 => s.1 (by rw [h1, h2]; rfl)) fun h2 => s.2 (by rw [h1, h2]; rfl)
    have J5 : ∀ w, At 0 w → f88.J5 q1 q2 j (decide (48 ≤ (j : Int)) && decide ((j : Int) ≤ 57)) (decide (33 ≤ (j : Int)) && decide ((j : Int) ≤ 126)) j Kn k w := by
      intro w h
      unfold f88.J5
      have s := step (isLet j || inRow [91, 93, 92, 95, 94, 123, 124, 125, 96] j) 0 3 (fun w => f88.J6 q1 q2 j (decide (48 ≤ (j : Int)) && decide ((j : Int) ≤ 57)) (decide (33 ≤ (j : Int)) && decide ((j : Int) ≤ 126)) j Kn k w) w (fun w h => J6 _ w (fun w h => fin w (by subst hAt; exact h)) h) h
      exact letter_c ⟨_, rfl, br (fun h1 => s.1 (by rw [h1]; rfl)) fun h1 => has_c hn ⟨_, rfl, br (fun h2 => s.1 (by rw [h1, h2]; rfl)) fun h2 => s.2 (by rw [h1, h2]; rfl)⟩⟩
    have h0 : At 0 w := by subst hAt; exact h
    have J4 : f88.J4 q1 q2 j (decide (48 ≤ (j : Int)) && decide ((j : Int) ≤ 57)) j Kn k w := by
      unfold f88.J4
      have := J5 w h0
      refine brD (fun h1 => ?_) fun h1 => ?_
      · simpa [h1] using this
      · simpa [h1] using this
    refine brD (fun h5 => ?_) fun h5 => ?_
    · rw [show decide (48 ≤ (j : Int)) = true from decide_eq_true h5, Bool.true_and, hKn] at J4
      exact J4
    · rw [show decide (48 ≤ (j : Int)) = false from decide_eq_false h5, Bool.false_and, hKn] at J4
      exact J4
  · have e : j = 256 := by omega
    subst e
    unfold f88.J1
    have hz : (kindL 256).toArray.size = 256 := by rw [List.size_toArray, kindL_len]
    refine LDA_r h hz (RQ_r hz ?_)
    refine stAll_all (vs := kindL 256) (h.swap) (by rw [kindL_len, kindL_len]) (kindL_one 256) fun w h => ?_
    exact LDA_r h hz (hk _ h.drop.drop)
end
end Go.Proofs.YtlefdgplobifiaaGreatDoor
