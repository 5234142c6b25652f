/- slices.Insert, Delete, Clone at the timer's items. -/
import Derived.Test.YtnaeabcaennbjaaOv
import Derived.Test.YtnaeabcaennbjaaBin
set_option linter.unusedVariables false
set_option linter.unusedSimpArgs false
namespace Go.Proofs.Ytnaeabcaennbjaa
open Go
theorem w64 {n : Int} (h : -9223372036854775808 ≤ n ∧ n ≤ 9223372036854775807) : IntKind.wrap .i64 n = n := w64' h
section
variable {w : World} {l r r1 : List HProp} {k : Value → World → Prop} {s : Sl} {cs : List Value}
/-- Insert, one item: in place or anew, the same answer. -/
theorem ins_c {i : Nat} {vb : Nat} {x y : Int} (hw : SatL w l) [f : FindO l (Row 2 72) s cs r1] [f2 : FindO r1 Blk vb (.cells #[.int .i64 x, .int .i64 y] 72 (0, 0)) r] (hi : i ≤ s.2.1) (hn : s.2.1 ≤ 100000000)
    (hone : ∀ v ∈ cs, v.oneCell' = true)
    (hk : ∀ s' w', s'.2.1 = s.2.1 + 1 → SatL w' (own (Row 2 72) s' (cs.take (i * 2) ++ [.int .i64 x, .int .i64 y] ++ cs.drop (i * 2)) :: r) → k (slv s') w') :
    CALL Try.prog 33 #[slv s, .int .i64 i, slv (some ⟨vb, 0, none⟩, 1, 1)] k w := by
  have h0 := hw.find (A := Row 2 72) s
  have hcl := Row.len h0
  have h1 : SatL w (own Blk vb (.cells #[.int .i64 x, .int .i64 y] 72 (0, 0)) :: own (Row 2 72) s cs :: r) := ((h0.perm (List.Perm.cons _ f2.perm)).swap)
  have h2 : SatL w (own (Row 2 72) (some ⟨vb, 0, none⟩, 1, 1) [.int .i64 x, .int .i64 y] :: own (Row 2 72) s cs :: r) := Row.mk (cs := [.int .i64 x, .int .i64 y]) (sp := []) (by simpa using h1) (by simp) (by simp) (Nat.le_refl _)
  have hnew : cellsOfS w (some ⟨vb, 0, none⟩, 1, 1) (1 * 2) = some [.int .i64 x, .int .i64 y] := by
    have := Row.cells h2 (m := 1) (Nat.le_refl _)
    simpa using this
  have hv : ∀ v ∈ [Value.int .i64 x, Value.int .i64 y], v.oneCell' = true := by simp [Value.oneCell']
  apply f33.call
  unfold f33.b
  refine RQ_r ⟨by omega, by omega⟩ ?_
  refine brF (by simp) ?_
  refine brE (fun he => ?_) fun he => ?_
  · have he : i = s.2.1 := by omega
    have h3 := h2.swap
    refine APP_r h3 (by simp) hnew (by simp) hv (by omega) (by simp only; omega) fun s' w' hs' hw' => hk _ _ hs' ?_
    have : i * 2 = cs.length := by omega
    rw [this, List.take_length, List.drop_length]
    simpa using hw'.swap.drop
  · obtain ⟨q, hq⟩ : ∃ q, q = r := ⟨_, rfl⟩
    rcases Row.out h2.swap with ⟨rfl, rfl, _⟩ | ⟨b, n, c, sp, rfl, g1, g2, g3, g4⟩
    · simp at hi he; omega
    · simp only at hi hn hcl he ⊢
      have e1 : IntKind.wrap .i64 ((n : Int) + ((1 : Nat) : Int)) = ((n + 1 : Nat) : Int) := by rw [w64] <;> omega
      have e2 : IntKind.wrap .i64 ((i : Int) + ((1 : Nat) : Int)) = ((i + 1 : Nat) : Int) := by rw [w64] <;> omega
      have e3 : IntKind.wrap .i64 (((n + 1 : Nat) : Int) - (i : Int)) = ((n + 1 - i : Nat) : Int) := by rw [w64] <;> omega
      simp only [e1, e2, e3, Int.toNat_natCast]
      refine brD (fun hc => ?_) fun hc => ?_
      · have hz0 : slSub (some ⟨b, 0, none⟩, n, c) 0 i 2 = (some ⟨b, 0, none⟩, i, c) := by
          simp only [slSub, Nat.zero_mul, Nat.sub_zero, Option.map_some, Addr.add_mk, Nat.add_zero, ite_self]
        simp only [hz0]
        refine RQ_r ⟨by omega, by omega⟩ (RQ_r (by refine ⟨?_, ?_, ?_, ?_, ?_, ?_⟩ <;> first | trivial | omega) ?_)
        have hL : (cs ++ sp).length = c * 2 := g2
        simp only [List.length_append] at hL
        refine APP_grow (vs := zeroCellsL #[.int .i64 0, .int .i64 0] (n + 1 - i)) (old := cs.take (i * 2)) g4 (by simp) rfl ?_ (by simp only; omega) (by omega) (by simp only; omega) fun b5 c5 sp5 w5 hc5 hsp5 hw5 => ?_
        · have := cells_sub (w := w) (o := 0) (n := n) (c := c) (i := 0) (h := i) (m := i) (sz := 2) g4.get (.inr ⟨by omega, by simp; omega⟩)
          rw [hz0] at this
          rw [this]; simp only [Nat.zero_mul, Nat.add_zero, List.drop_zero]
          rw [List.take_append_of_le_length (by omega)]
        · simp only at hc5 hsp5 hw5 ⊢
          have hz5 : (zeroCellsL #[.int .i64 0, .int .i64 0] (n + 1 - i)).length = (n + 1 - i) * 2 := by simp [zeroCellsL, Builtin.zeroCells]
          have hn5 : i + (n + 1 - i) = n + 1 := by omega
          rw [hn5] at hc5 hsp5
          refine RQ_r ⟨by omega, by omega⟩ ?_
          have hnew5 : cellsOfS w5 (some ⟨vb, 0, none⟩, 1, 1) (min 1 (n + 1 - i) * 2) = some [.int .i64 x, .int .i64 y] := by
            have := Row.cells (hw5.drop.drop) (m := 1) (Nat.le_refl _)
            rw [Nat.min_eq_left (by omega)]; simpa using this
          have hlt5 : (List.take (i * 2) cs).length = i * 2 := by simp; omega
          simp only [hn5]
          refine CPY_r (o := 0) (vs := [.int .i64 x, .int .i64 y]) hw5 hnew5 hv (.inr ⟨by omega, by simp; omega⟩) fun w6 hw6 => ?_
          refine DR_r hw6 fun w7 hw7 => ?_
          refine RQ_r ⟨by omega, by omega⟩ (RQ_r ⟨by omega, by omega⟩ ?_)
          have hB : cellsOfS w7 (slSub (some ⟨b, 0, none⟩, n, c) i n 2) (min (n - i) (n + 1 - (i + 1)) * 2) = some (cs.drop (i * 2)) := by
            rw [Nat.min_eq_left (by omega)]
            rw [cells_sub hw7.swap.get (.inr ⟨by omega, by simp; omega⟩)]
            rw [Nat.zero_add, List.drop_append_of_le_length (by omega), List.take_append_of_le_length (by simp; omega), List.take_of_length_le (by simp; omega)]
          refine CPY_r (o := 0) (vs := cs.drop (i * 2)) hw7 hB (fun v hv => hone v (List.mem_of_mem_drop hv)) (.inr ⟨by omega, by simp [over, hz5]; omega⟩) fun w8 hw8 => ?_
          have e8 : over (over (List.take (i * 2) cs ++ zeroCellsL #[.int .i64 0, .int .i64 0] (n + 1 - i) ++ sp5) (0 + i * 2) [.int .i64 x, .int .i64 y]) (0 + (i + 1) * 2) (cs.drop (i * 2)) = (cs.take (i * 2) ++ [.int .i64 x, .int .i64 y] ++ cs.drop (i * 2)) ++ sp5 := by
            have := over_two (cs.take (i * 2)) (zeroCellsL #[.int .i64 0, .int .i64 0] (n + 1 - i)) sp5 [.int .i64 x, .int .i64 y] (cs.drop (i * 2)) (by rw [hz5]; simp; omega)
            rw [hlt5] at this
            rw [Nat.zero_add, Nat.zero_add, show (i + 1) * 2 = i * 2 + [Value.int .i64 x, Value.int .i64 y].length by simp; omega]
            exact this
          rw [e8] at hw8
          refine hk _ _ rfl ?_
          refine (Row.mk (n := n + 1) (c := c5) hw8 (by simp; omega) ?_ hc5).swap.drop.swap.drop
          simp only [List.length_append, hlt5, hsp5, List.length_drop, List.length_cons, List.length_nil]; omega
      · have hz0 : slSub (some ⟨b, 0, none⟩, n, c) 0 (n + 1) 2 = (some ⟨b, 0, none⟩, n + 1, c) := by
          simp only [slSub, Nat.zero_mul, Nat.sub_zero, Option.map_some, Addr.add_mk, Nat.add_zero, ite_self]
        simp only [hz0]
        have hL : (cs ++ sp).length = c * 2 := g2
        simp only [List.length_append] at hL
        have hsp : 2 ≤ sp.length := by omega
        refine RQ_r ⟨by omega, by omega⟩ (RQ_r ⟨by omega, by omega⟩ ?_)
        have g5 : SatL w (own Blk vb (.cells #[.int .i64 x, .int .i64 y] 72 (0, 0)) :: own Blk b (.cells (cs ++ sp).toArray 72 (0, 0)) :: r) := by
          rcases Row.out g4.swap with ⟨h, _⟩ | ⟨b', n', c', sp', h, h', h'', h''', h4⟩
          · cases h
          · simp only [Prod.mk.injEq, Option.some.injEq, Addr.mk.injEq] at h
            obtain ⟨⟨rfl, _⟩, rfl, rfl⟩ := h
            have : sp' = [] := by simp at h''; exact h''
            subst this
            simpa using h4
        simp only [slSub_lt (sz := 2) (show i + 1 < c by omega)]
        refine ov42 g5 (by rw [List.size_toArray, List.length_append]; omega) ⟨_, rfl, brT (by simp) ?_⟩
        refine DR_r g4 fun w1 hw1 => ?_
        refine RQ_r ⟨by omega, by omega⟩ (RQ_r ⟨by omega, by omega⟩ ?_)
        simp only [← slSub_lt (b := b) (o := 0) (n := n + 1) (h := n + 1) (sz := 2) (show i + 1 < c by omega)]
        have hlt : (List.take (i * 2) cs).length = i * 2 := by simp; omega
        have hB : cellsOfS w1 (slSub (some ⟨b, 0, none⟩, n + 1, c) i (n + 1) 2) (min (n + 1 - i) (n + 1 - (i + 1)) * 2) = some (cs.drop (i * 2)) := by
          rw [Nat.min_eq_right (by omega)]
          rw [cells_sub hw1.get (.inr ⟨by omega, by simp; omega⟩)]
          rw [Nat.zero_add, List.drop_append_of_le_length (by omega), List.take_append_of_le_length (by simp; omega), List.take_of_length_le (by simp; omega)]
        refine CPY_r (o := 0) (vs := cs.drop (i * 2)) hw1 hB (fun v hv => hone v (List.mem_of_mem_drop hv)) (.inr ⟨by omega, by simp; omega⟩) fun w2 hw2 => ?_
        refine RQ_r ⟨by omega, by omega⟩ ?_
        have hN : cellsOfS w2 (some ⟨vb, 0, none⟩, 1, 1) (min 1 (n + 1 - i) * 2) = some [.int .i64 x, .int .i64 y] := by
          have := Row.cells (hw2.drop) (m := 1) (Nat.le_refl _)
          rw [Nat.min_eq_left (by omega)]; simpa using this
        refine CPY_r (o := 0) (vs := [.int .i64 x, .int .i64 y]) hw2 hN hv (.inr ⟨by omega, by simp [over]; omega⟩) fun w3 hw3 => ?_
        have e8 : over (over (cs ++ sp) (0 + (i + 1) * 2) (cs.drop (i * 2))) (0 + i * 2) [.int .i64 x, .int .i64 y] = (cs.take (i * 2) ++ [.int .i64 x, .int .i64 y] ++ cs.drop (i * 2)) ++ sp.drop 2 := by
          have := over_ins (cs.take (i * 2)) (cs.drop (i * 2)) sp [.int .i64 x, .int .i64 y] (by simpa using hsp)
          rw [hlt, List.take_append_drop] at this
          rw [Nat.zero_add, Nat.zero_add, show (i + 1) * 2 = i * 2 + [Value.int .i64 x, Value.int .i64 y].length by simp; omega]
          exact this
        rw [e8] at hw3
        refine hk _ _ rfl ?_
        refine (Row.mk (n := n + 1) (c := c) hw3 (by simp; omega) ?_ (by omega)).swap.drop
        simp only [List.length_append, hlt, List.length_drop, List.length_cons, List.length_nil]; omega
/-- Delete, one item. -/
theorem del_c {i : Nat} (hw : SatL w l) [f : FindO l (Row 2 72) s cs r] (hi : i < s.2.1) (hn : s.2.1 ≤ 100000000) (hone : ∀ v ∈ cs, v.oneCell' = true)
    (hk : ∀ s' w', s'.2.1 = s.2.1 - 1 → SatL w' (own (Row 2 72) s' (cs.take (i * 2) ++ cs.drop (i * 2 + 2)) :: r) → k (slv s') w') :
    CALL Try.prog 34 #[slv s, .int .i64 i, .int .i64 (i + 1 : Nat)] k w := by
  have h0 := hw.find (A := Row 2 72) s
  have hcl := Row.len h0
  apply f34.call
  unfold f34.b
  rcases Row.out h0 with ⟨rfl, rfl, _⟩ | ⟨b, n, c, sp, rfl, g1, g2, g3, g4⟩
  · simp at hi
  · simp only at hi hn hcl ⊢
    have hL : (cs ++ sp).length = c * 2 := g2
    simp only [List.length_append] at hL
    have hz0 : slSub (some ⟨b, 0, none⟩, n, c) 0 i 2 = (some ⟨b, 0, none⟩, i, c) := by
      simp only [slSub, Nat.zero_mul, Nat.sub_zero, Option.map_some, Addr.add_mk, Nat.add_zero, ite_self]
    have hm : (slSub (some ⟨b, 0, none⟩, n, c) (i + 1) n 2).2.1 = n - (i + 1) := rfl
    simp only [Int.toNat_natCast, hz0, hm]
    refine RQ_r ⟨by omega, by omega⟩ (RQ_r ⟨by omega, by omega⟩ (RQ_r ⟨by omega, by omega⟩ (brF (by simp; omega) ?_)))
    refine DR_r g4 fun w1 hw1 => RQ_r ⟨by omega, by omega⟩ (RQ_r ⟨by omega, by omega⟩ ?_)
    have hB : cellsOfS w1 (slSub (some ⟨b, 0, none⟩, n, c) (i + 1) n 2) ((n - (i + 1)) * 2) = some (cs.drop (i * 2 + 2)) := by
      rw [cells_sub hw1.get (by by_cases h : n - (i + 1) = 0; exact .inl h; exact .inr ⟨by omega, by simp; omega⟩)]
      rw [Nat.zero_add, show (i + 1) * 2 = i * 2 + 2 by omega, List.drop_append_of_le_length (by omega), List.take_append_of_le_length (by simp; omega), List.take_of_length_le (by simp; omega)]
    refine APP_fit (o := 0) (vs := cs.drop (i * 2 + 2)) hw1 hB (by omega) (by simp; omega) (fun v hv => hone v (List.mem_of_mem_drop hv)) fun w2 hw2 => ?_
    have hn2 : i + (n - (i + 1)) = n - 1 := by omega
    simp only [hn2]
    refine RQ_r ⟨by omega, by omega⟩ (RQ_r ⟨by omega, by omega⟩ ?_)
    have hlt : (List.take (i * 2) cs).length = i * 2 := by simp; omega
    have e8 : over (cs ++ sp) (0 + i * 2) (cs.drop (i * 2 + 2)) = (cs.take (i * 2) ++ cs.drop (i * 2 + 2)) ++ (cs ++ sp).drop (i * 2 + (cs.length - (i * 2 + 2))) := by
      unfold over
      rw [Nat.zero_add, List.take_append_of_le_length (by omega), List.length_drop]
    rw [e8] at hw2
    have hlen2 : ((cs.take (i * 2) ++ cs.drop (i * 2 + 2)) ++ (cs ++ sp).drop (i * 2 + (cs.length - (i * 2 + 2)))).length = c * 2 := by simp; omega
    refine CLR_r (o := 0) hw2 (by simp) ?_ (fun _ => ⟨by omega, by rw [hlen2]; omega⟩) fun L' w3 hl3 ht3 hw3 => hk _ _ rfl ?_
    · intro v hv
      simp only [zeroCellsL, Builtin.zeroCells, Array.toList_map, List.mem_map] at hv
      obtain ⟨j, _, rfl⟩ := hv
      rcases Nat.mod_two_eq_zero_or_one j with h | h <;> simp [h, Value.oneCell']
    · have hx : (cs.take (i * 2) ++ cs.drop (i * 2 + 2)).length = (n - 1) * 2 := by simp; omega
      have e9 : L' = (cs.take (i * 2) ++ cs.drop (i * 2 + 2)) ++ L'.drop ((n - 1) * 2) := by
        have h1 := List.take_append_drop ((n - 1) * 2) L'
        rw [Nat.zero_add, List.take_left' hx] at ht3
        rw [ht3] at h1
        exact h1.symm
      rw [e9] at hw3
      exact Row.mk hw3 hx (by rw [← e9, hl3, hlen2]) (by omega)
/-- Clone of a row's first items. -/
theorem clone_c {i : Nat} (hw : SatL w l) [f : FindO l (Row 2 72) s cs r] (hi : i ≤ s.2.1) (hn : s.2.1 ≤ 100000000) (hone : ∀ v ∈ cs, v.oneCell' = true)
    (hk : ∀ s' w', s'.2.1 = i → SatL w' (own (Row 2 72) s' (cs.take (i * 2)) :: own (Row 2 72) s cs :: r) → k (slv s') w') :
    CALL Try.prog 35 #[slv (slSub s 0 i 2)] k w := by
  have h0 := hw.find (A := Row 2 72) s
  have hcl := Row.len h0
  apply f35.call
  unfold f35.b
  rcases Row.out h0 with ⟨rfl, rfl, _⟩ | ⟨b, n, c, sp, rfl, g1, g2, g3, g4⟩
  · have : i = 0 := by simpa using hi
    subst this
    refine brT (by simp [slSub]) ?_
    exact hk (none, 0, 0) w rfl (by simpa using Row.nil h0)
  · simp only at hi hn hcl ⊢
    have hz0 : slSub (some ⟨b, 0, none⟩, n, c) 0 i 2 = (some ⟨b, 0, none⟩, i, c) := by
      simp only [slSub, Nat.zero_mul, Nat.sub_zero, Option.map_some, Addr.add_mk, Nat.add_zero, ite_self]
    rw [hz0]
    refine brF (by simp) (AL_r h0 fun q w1 hw1 => ?_)
    have h1 : SatL w1 (own (Row 2 72) (some ⟨q, 0, none⟩, 0, 0) [] :: own (Row 2 72) (some ⟨b, 0, none⟩, n, c) cs :: r) := Row.mk (sp := []) (cs := []) hw1 (by simp) (by simp) (Nat.le_refl _)
    have hB : cellsOfS w1 (some ⟨b, 0, none⟩, i, c) (i * 2) = some (cs.take (i * 2)) := by
      have := Row.cells h1.drop (m := i) hi
      exact this
    exact APP_r h1 (by simp) hB (by simp; omega) (fun v hv => hone v (List.mem_of_mem_take hv)) (by omega) (by simp only; omega) fun s' w' hs' hw' => hk s' w' (by simpa using hs') (by simpa using hw')
end
end Go.Proofs.Ytnaeabcaennbjaa
