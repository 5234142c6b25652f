/- slices.BinarySearchFunc at the timer's items. -/
import Derived.Test.YtnaeabcaennbjaaEnc
import Derived.Test.YtnaeabcaennbjaaGF
set_option linter.unusedVariables false
set_option linter.unusedSimpArgs false
namespace Go.Proofs.Ytnaeabcaennbjaa
open Go
theorem RQ_r {p X : Prop} (hp : p) (hX : X) : RQ p X := ⟨hp, hX⟩
section
variable {w : World} {l r : List HProp} {k : Value → World → Prop} {s : Sl} {xs : List (Int × Int)}
theorem LD_get {α : Type} {mk : α → Value} {b i : Nat} {cs : Array Value} {t : TypeId} {fz : Nat × Nat} {k : α → World → Prop} {x : α} (h : w.heap[b]? = some (.cells cs t fz)) (hi : cs[i]? = some (mk x)) (hk : k x w) : LD mk ⟨b, i, none⟩ k w :=
  ⟨x, by rw [cell_of h]; exact hi, hk⟩
theorem IX_items {t : TypeId} {i : Int} {x : Int × Int} {k : Addr → Prop} (hw : SatL w l) [f : FindO l (Row 2 t) s (encs xs) r] (h0 : 0 ≤ i) (hx : xs[i.toNat]? = some x)
    (hk : ∀ b cs', w.heap[b]? = some (.cells cs' t (0, 0)) → cs'[i.toNat * 2]? = some (.int .i64 x.1) → cs'[i.toNat * 2 + 1]? = some (.int .i64 x.2) → k ⟨b, i.toNat * 2, none⟩) : IX s i 2 k := by
  have h := hw.find (A := Row 2 t) s
  have hlt : i.toNat < xs.length := (List.getElem?_eq_some_iff.1 hx).1
  have hl := Row.len h
  rw [encs_len] at hl
  rcases Row.out h with ⟨rfl, h2, _⟩ | ⟨b, n, c, sp, rfl, h1, h2, h3, h4⟩
  · simp at hl; omega
  · simp only at hl
    refine ⟨_, rfl, h0, by simp only; omega, ?_⟩
    rw [Addr.add_mk, Nat.zero_add]
    refine hk b _ h4.get ?_ ?_
    · rw [List.getElem?_toArray, List.getElem?_append_left (by rw [encs_len]; omega)]; exact encs_get0 hx
    · rw [List.getElem?_toArray, List.getElem?_append_left (by rw [encs_len]; omega)]; exact encs_get1 hx
theorem half {i j : Int} (hi : 0 ≤ i) (hj : 0 ≤ j) (hj2 : i + j ≤ 9223372036854775807) : IntKind.wrap .i64 (Int.fdiv (IntKind.wrap .u64 (IntKind.wrap .i64 (i + j))) (2 ^ (min (Int.toNat 1) (IntKind.bits .u64)))) = (i + j) / 2 := by
  have e1 : IntKind.wrap .i64 (i + j) = i + j := w64' (by omega)
  have e2 : IntKind.wrap .u64 (i + j) = i + j := by
    simp only [IntKind.wrap, IntKind.signed, IntKind.bits]
    simp
    omega
  have e3 : (2 : Int) ^ (min (Int.toNat 1) (IntKind.bits .u64)) = 2 := rfl
  rw [e1, e2, e3, Int.fdiv_eq_ediv_of_nonneg _ (by omega)]
  exact w64' (by omega)
def ltT (x y : Int × Int) : Prop := x.2 < y.2 ∨ (x.2 = y.2 ∧ x.1 < y.1)
def SortedT (xs : List (Int × Int)) : Prop := ∀ (m m' : Nat) x y, m < m' → xs[m]? = some x → xs[m']? = some y → ltT x y
theorem bin_c {k0 t0 : Int} (hw : SatL w l) [f : FindO l (Row 2 72) s (encs xs) r] (hn : xs.length ≤ 100000000) (hs : SortedT xs)
    (hk : ∀ (i : Nat) (b : Bool) w', i ≤ xs.length → (∀ m x, m < i → xs[m]? = some x → ltT x (k0, t0)) → (∀ m x, i ≤ m → xs[m]? = some x → ¬ ltT x (k0, t0)) → (b = true ↔ xs[i]? = some (k0, t0)) →
      SatL w' l → k (.tuple #[.int .i64 i, .bool b]) w') : CALL Try.prog 31 #[slv s, .agg #[.int .i64 k0, .int .i64 t0], .func (.func 32) #[] #[]] k w := by
  have hl := Row.len (hw.find (A := Row 2 72) s)
  rw [encs_len] at hl
  have hl : xs.length = s.2.1 := by omega
  apply f31.call
  unfold f31.b
  refine AL_r hw fun q w1 h1 => ?_
  refine f31.L2_rule (fun i j w => (0 ≤ i ∧ i ≤ j ∧ j ≤ xs.length) ∧ (∀ (m : Nat) x, m < i.toNat → xs[m]? = some x → ltT x (k0, t0)) ∧ (∀ (m : Nat) x, j.toNat ≤ m → xs[m]? = some x → ¬ ltT x (k0, t0)) ∧
    SatL w (own Blk q (.cells #[.int .i64 k0, .int .i64 t0] 72 (0, 0)) :: l)) (fun i j _ => (j - i).toNat) ⟨⟨by omega, by omega, by omega⟩, fun m x h => by simp at h, fun m x h hx => by
      have := (List.getElem?_eq_some_iff.1 hx).1; simp at h; omega, h1⟩ ?_
  rintro i j w2 ⟨⟨hi, hij, hj⟩, hlo, hhi, h2⟩
  unfold f31.L2
  refine brD (fun hlt => ?_) fun hge => ?_
  · refine RQ_r (by omega) (DR_r h2 fun w3 h3 => ?_)
    rw [half hi (by omega) (by omega)]
    obtain ⟨x, hx⟩ : ∃ x, xs[((i + j) / 2).toNat]? = some x := ⟨_, List.getElem?_eq_getElem (by omega)⟩
    refine IX_items (t := 72) (xs := xs) h3 (by omega) hx fun b cs' hb hc0 hc1 => ?_
    simp only [Addr.add_mk, Nat.add_zero]
    refine LD_get hb hc0 (LD_get hb hc1 (LD_r h3 (x := k0) rfl (LD_r h3 (x := t0) rfl ⟨?_⟩)))
    refine compare_c h3 fun w4 h4 => ⟨_, rfl, brD (fun hc => ?_) fun hc => ?_⟩
    · have hx' : ltT x (k0, t0) := by rw [cmpT_lt] at hc; exact hc
      rw [show IntKind.wrap .i64 ((i + j) / 2 + 1) = (i + j) / 2 + 1 from w64' (by omega)]
      refine f31.L2_next ⟨⟨by omega, by omega, hj⟩, fun m y hm hy => ?_, hhi, h4⟩ (by omega)
      by_cases he : m = ((i + j) / 2).toNat
      · subst he; rw [hx] at hy; cases hy; exact hx'
      · have := hs m _ y x (by omega) hy hx
        unfold ltT at this hx' ⊢
        simp only at hx' ⊢
        omega
    · have hx' : ¬ ltT x (k0, t0) := by rw [cmpT_lt] at hc; exact hc
      refine f31.L2_next ⟨⟨by omega, by omega, by omega⟩, hlo, fun m y hm hy => ?_, h4⟩ (by omega)
      by_cases he : m = ((i + j) / 2).toNat
      · subst he; rw [hx] at hy; cases hy; exact hx'
      · have := hs _ m x y (by omega) hx hy
        unfold ltT at this hx' ⊢
        simp only at hx' ⊢
        omega
  · have hij : i = j := by omega
    subst hij
    unfold f31.J1
    refine DR_r h2 fun w3 h3 => brD (fun hlt => ?_) fun hge => ?_
    · obtain ⟨x, hx⟩ : ∃ x, xs[i.toNat]? = some x := ⟨_, List.getElem?_eq_getElem (by omega)⟩
      refine IX_items (t := 72) (xs := xs) h3 (by omega) hx fun b cs' hb hc0 hc1 => ?_
      simp only [Addr.add_mk, Nat.add_zero]
      refine LD_get hb hc0 (LD_get hb hc1 (LD_r h3 (x := k0) rfl (LD_r h3 (x := t0) rfl ⟨?_⟩)))
      refine compare_c h3 fun w4 h4 => ⟨_, rfl, ?_⟩
      have := hk i.toNat (cmpT x.1 x.2 k0 t0 == 0) w4 (by omega) hlo hhi ?_ h4.drop
      · rw [Int.toNat_of_nonneg hi] at this; exact this
      · rw [hx, beq_iff_eq, cmpT_zero]
        obtain ⟨x1, x2⟩ := x
        simp
        omega
    · have := hk i.toNat false w3 (by omega) hlo hhi (by rw [List.getElem?_eq_none (by omega)]; simp) h3.drop
      rw [Int.toNat_of_nonneg hi] at this; exact this
end
end Go.Proofs.Ytnaeabcaennbjaa
