/- slices.Insert, one item (a template: M). -/
import Derived.Test.YtlefdgplobifiaaGreatDoorEncG
import Derived.Test.YtlefdgplobifiaaGreatDoorStr
import Derived.Test.YtlefdgplobifiaaGreatDoorGB
import Derived.Test.YtlefdgplobifiaaGreatDoorGC
import Derived.Test.YtlefdgplobifiaaGreatDoorGD
import Derived.Lib.Overlaps
set_option linter.unusedVariables false
set_option linter.unusedSimpArgs false
namespace Go.Proofs.YtlefdgplobifiaaGreatDoor
open Go
section
variable {w : World} {l r r1 : List HProp} {k : Value → World → Prop} {s : Sl} {cs : List Value}
theorem shape_ofM {b : Nat} {cs : Array Value} {t : TypeId} {fz : Nat × Nat} (h : w.heap[b]? = some (.cells cs t fz)) : w.shape? b = some (t, cs.size) := by simp [World.shape?, h]
theorem ovM {b b' off n c n' c' : Nat} {L L' : Array Value} {t t' : TypeId} (hw : SatL w (own Blk b (.cells L t (0, 0)) :: own Blk b' (.cells L' t' (0, 0)) :: r)) (hL : L'.size ≠ 0) (hk : k (.bool false) w) :
    CALL Tryz.prog 84 #[.slice (some ⟨b, 0, none⟩) n c, .slice (some ⟨b', off, none⟩) n' c'] k w := by
  refine ⟨.inr ⟨_, _, ?_, hk⟩⟩
  have h1 := hw.get
  have h2 := hw.swap.get
  rw [run_callFunc_extern Tryz.func84 (by kernel_rfl) (by kernel_rfl) (by kernel_rfl) (e := Extern.SlicesOverlaps.overlaps #[47, 47] #[4]) (by kernel_rfl),
    Lib.run_overlaps_apart w 47 4 39 (by kernel_rfl) 3 (fun w => by kernel_rfl) ⟨b, 0, none⟩ ⟨b', off, none⟩ n c n' c' hw.ne t t' L.size L'.size (shape_ofM h1) (shape_ofM h2) hL (frozen_of h1) (frozen_of h1)]
  rfl
/-- Insert, one item: in place or anew, the same answer. -/
theorem insM_c {i : Nat} {vb : Nat} {X : List Value} (hX : X.length = 3) (hv : ∀ v ∈ X, v.oneCell' = true) (hw : SatL w l) [f : FindO l (Row 3 39) s cs r1] [f2 : FindO r1 Blk vb (.cells X.toArray 39 (0, 0)) r] (hi : i ≤ s.2.1) (hn : s.2.1 ≤ 100000000)
    (hone : ∀ v ∈ cs, v.oneCell' = true)
    (hk : ∀ s' w', s'.2.1 = s.2.1 + 1 → SatL w' (own (Row 3 39) s' (cs.take (i * 3) ++ X ++ cs.drop (i * 3)) :: r) → k (slv s') w') :
    CALL Tryz.prog 52 #[slv s, .int .i64 i, slv (some ⟨vb, 0, none⟩, 1, 1)] k w := by
  have h0 := hw.find (A := Row 3 39) s
  have hcl := Row.len h0
  have hXt : X.take (1 * 3) = X := List.take_of_length_le (by omega)
  have h1 : SatL w (own Blk vb (.cells X.toArray 39 (0, 0)) :: own (Row 3 39) s cs :: r) := ((h0.perm (List.Perm.cons _ f2.perm)).swap)
  have h2 : SatL w (own (Row 3 39) (some ⟨vb, 0, none⟩, 1, 1) X :: own (Row 3 39) s cs :: r) := Row.mk (cs := X) (sp := []) (by simpa using h1) (by omega) (by simp; omega) (Nat.le_refl _)
  have hnew : cellsOfS w (some ⟨vb, 0, none⟩, 1, 1) (1 * 3) = some X := by
    have := Row.cells h2 (m := 1) (Nat.le_refl _)
    rw [hXt] at this
    exact this
  apply f52.call
  unfold f52.b
  refine RQ_r ⟨by omega, by omega⟩ ?_
  refine brF (by simp) ?_
  refine brE (fun he => ?_) fun he => ?_
  · have he : i = s.2.1 := by omega
    have h3 := h2.swap
    refine APP_r h3 (by simp) hnew (by omega) hv (by omega) (by simp only; omega) fun s' w' hs' hw' => hk _ _ hs' ?_
    have : i * 3 = cs.length := by omega
    rw [this, List.take_length, List.drop_length]
    simpa using hw'.swap.drop
  · obtain ⟨q, hq⟩ : ∃ q, q = r := ⟨_, rfl⟩
    rcases Row.out h2.swap with ⟨rfl, rfl, _⟩ | ⟨b, n, c, sp, rfl, g1, g2, g3, g4⟩
    · simp at hi he; omega
    · simp only at hi hn hcl he ⊢
      have e1 : IntKind.wrap .i64 ((n : Int) + ((1 : Nat) : Int)) = ((n + 1 : Nat) : Int) := by rw [w64'] <;> omega
      have e2 : IntKind.wrap .i64 ((i : Int) + ((1 : Nat) : Int)) = ((i + 1 : Nat) : Int) := by rw [w64'] <;> omega
      have e3 : IntKind.wrap .i64 (((n + 1 : Nat) : Int) - (i : Int)) = ((n + 1 - i : Nat) : Int) := by rw [w64'] <;> omega
      simp only [e1, e2, e3, Int.toNat_natCast]
      refine brD (fun hc => ?_) fun hc => ?_
      · have hz0 : slSub (some ⟨b, 0, none⟩, n, c) 0 i 3 = (some ⟨b, 0, none⟩, i, c) := by
          simp only [slSub, Nat.zero_mul, Nat.sub_zero, Option.map_some, Addr.add_mk, Nat.add_zero, ite_self]
        simp only [hz0]
        refine RQ_r ⟨by omega, by omega⟩ (RQ_r (by refine ⟨?_, ?_, ?_, ?_, ?_, ?_⟩ <;> first | trivial | omega) ?_)
        have hL : (cs ++ sp).length = c * 3 := g2
        simp only [List.length_append] at hL
        refine APP_grow (vs := zeroCellsL #[.int .i64 0, .bool false, .bool false] (n + 1 - i)) (old := cs.take (i * 3)) g4 (by simp) rfl ?_ (by simp only; omega) (by omega) (by simp only; omega) fun b5 c5 sp5 w5 hc5 hsp5 hw5 => ?_
        · have := cells_sub (w := w) (o := 0) (n := n) (c := c) (i := 0) (h := i) (m := i) (sz := 3) g4.get (.inr ⟨by omega, by simp; omega⟩)
          rw [hz0] at this
          rw [this]; simp only [Nat.zero_mul, Nat.add_zero, List.drop_zero]
          rw [List.take_append_of_le_length (by omega)]
        · simp only at hc5 hsp5 hw5 ⊢
          have hz5 : (zeroCellsL #[.int .i64 0, .bool false, .bool false] (n + 1 - i)).length = (n + 1 - i) * 3 := by simp [zeroCellsL, Builtin.zeroCells]
          have hn5 : i + (n + 1 - i) = n + 1 := by omega
          rw [hn5] at hc5 hsp5
          refine RQ_r ⟨by omega, by omega⟩ ?_
          have hnew5 : cellsOfS w5 (some ⟨vb, 0, none⟩, 1, 1) (min 1 (n + 1 - i) * 3) = some X := by
            have := Row.cells (hw5.drop.drop) (m := 1) (Nat.le_refl _)
            rw [Nat.min_eq_left (by omega)]; rw [hXt] at this; exact this
          have hlt5 : (List.take (i * 3) cs).length = i * 3 := by simp; omega
          simp only [hn5]
          refine CPY_r (o := 0) (vs := X) hw5 hnew5 hv (.inr ⟨by omega, by simp; omega⟩) fun w6 hw6 => ?_
          refine DR_r hw6 fun w7 hw7 => ?_
          refine RQ_r ⟨by omega, by omega⟩ (RQ_r ⟨by omega, by omega⟩ ?_)
          have hB : cellsOfS w7 (slSub (some ⟨b, 0, none⟩, n, c) i n 3) (min (n - i) (n + 1 - (i + 1)) * 3) = some (cs.drop (i * 3)) := by
            rw [Nat.min_eq_left (by omega)]
            rw [cells_sub hw7.swap.get (.inr ⟨by omega, by simp; omega⟩)]
            rw [Nat.zero_add, List.drop_append_of_le_length (by omega), List.take_append_of_le_length (by simp; omega), List.take_of_length_le (by simp; omega)]
          refine CPY_r (o := 0) (vs := cs.drop (i * 3)) hw7 hB (fun v hv => hone v (List.mem_of_mem_drop hv)) (.inr ⟨by omega, by simp [over, hz5]; omega⟩) fun w8 hw8 => ?_
          have e8 : over (over (List.take (i * 3) cs ++ zeroCellsL #[.int .i64 0, .bool false, .bool false] (n + 1 - i) ++ sp5) (0 + i * 3) X) (0 + (i + 1) * 3) (cs.drop (i * 3)) = (cs.take (i * 3) ++ X ++ cs.drop (i * 3)) ++ sp5 := by
            have := over_two (cs.take (i * 3)) (zeroCellsL #[.int .i64 0, .bool false, .bool false] (n + 1 - i)) sp5 X (cs.drop (i * 3)) (by rw [hz5]; simp; omega)
            rw [hlt5] at this
            rw [Nat.zero_add, Nat.zero_add, show (i + 1) * 3 = i * 3 + X.length by omega]
            exact this
          rw [e8] at hw8
          refine hk _ _ rfl ?_
          refine (Row.mk (n := n + 1) (c := c5) hw8 (by simp; omega) ?_ hc5).swap.drop.swap.drop
          simp only [List.length_append, hlt5, hsp5, List.length_drop, List.length_cons, List.length_nil]; omega
      · have hz0 : slSub (some ⟨b, 0, none⟩, n, c) 0 (n + 1) 3 = (some ⟨b, 0, none⟩, n + 1, c) := by
          simp only [slSub, Nat.zero_mul, Nat.sub_zero, Option.map_some, Addr.add_mk, Nat.add_zero, ite_self]
        simp only [hz0]
        have hL : (cs ++ sp).length = c * 3 := g2
        simp only [List.length_append] at hL
        have hsp : 3 ≤ sp.length := by omega
        refine RQ_r ⟨by omega, by omega⟩ (RQ_r ⟨by omega, by omega⟩ ?_)
        have g5 : SatL w (own Blk vb (.cells X.toArray 39 (0, 0)) :: own Blk b (.cells (cs ++ sp).toArray 39 (0, 0)) :: r) := by
          rcases Row.out g4.swap with ⟨h, _⟩ | ⟨b', n', c', sp', h, h', h'', h''', h4⟩
          · cases h
          · simp only [Prod.mk.injEq, Option.some.injEq, Addr.mk.injEq] at h
            obtain ⟨⟨rfl, _⟩, rfl, rfl⟩ := h
            have : sp' = [] := List.length_eq_zero_iff.1 (by rw [List.length_append] at h''; omega)
            subst this
            simpa using h4
        simp only [slSub_lt (sz := 3) (show i + 1 < c by omega)]
        refine ovM g5 (by rw [List.size_toArray, List.length_append]; omega) ⟨_, rfl, brT (by simp) ?_⟩
        refine DR_r g4 fun w1 hw1 => ?_
        refine RQ_r ⟨by omega, by omega⟩ (RQ_r ⟨by omega, by omega⟩ ?_)
        simp only [← slSub_lt (b := b) (o := 0) (n := n + 1) (h := n + 1) (sz := 3) (show i + 1 < c by omega)]
        have hlt : (List.take (i * 3) cs).length = i * 3 := by simp; omega
        have hB : cellsOfS w1 (slSub (some ⟨b, 0, none⟩, n + 1, c) i (n + 1) 3) (min (n + 1 - i) (n + 1 - (i + 1)) * 3) = some (cs.drop (i * 3)) := by
          rw [Nat.min_eq_right (by omega)]
          rw [cells_sub hw1.get (.inr ⟨by omega, by simp; omega⟩)]
          rw [Nat.zero_add, List.drop_append_of_le_length (by omega), List.take_append_of_le_length (by simp; omega), List.take_of_length_le (by simp; omega)]
        refine CPY_r (o := 0) (vs := cs.drop (i * 3)) hw1 hB (fun v hv => hone v (List.mem_of_mem_drop hv)) (.inr ⟨by omega, by simp; omega⟩) fun w2 hw2 => ?_
        refine RQ_r ⟨by omega, by omega⟩ ?_
        have hN : cellsOfS w2 (some ⟨vb, 0, none⟩, 1, 1) (min 1 (n + 1 - i) * 3) = some X := by
          have := Row.cells (hw2.drop) (m := 1) (Nat.le_refl _)
          rw [Nat.min_eq_left (by omega)]; rw [hXt] at this; exact this
        refine CPY_r (o := 0) (vs := X) hw2 hN hv (.inr ⟨by omega, by simp [over]; omega⟩) fun w3 hw3 => ?_
        have e8 : over (over (cs ++ sp) (0 + (i + 1) * 3) (cs.drop (i * 3))) (0 + i * 3) X = (cs.take (i * 3) ++ X ++ cs.drop (i * 3)) ++ sp.drop 3 := by
          have := over_ins (cs.take (i * 3)) (cs.drop (i * 3)) sp X (by rw [hX]; exact hsp)
          rw [hlt, List.take_append_drop] at this
          rw [Nat.zero_add, Nat.zero_add, show (i + 1) * 3 = i * 3 + X.length by omega]
          rw [this, hX]
        rw [e8] at hw3
        refine hk _ _ rfl ?_
        refine (Row.mk (n := n + 1) (c := c) hw3 (by simp; omega) ?_ (by omega)).swap.drop
        simp only [List.length_append, hlt, List.length_drop, List.length_cons, List.length_nil]; omega
end
end Go.Proofs.YtlefdgplobifiaaGreatDoor
