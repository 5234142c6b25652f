/- What lay when a law's call began, as a chunk; arguments that are slices of structs of numbers, and of bools. -/
import Derived.Test.YtlefdgplobifiaaGreatDoorRf
import Derived.ProofKit
import Derived.Deep.Slices
import Derived.Deep.Fields
import Derived.Deep.Grids
set_option linter.unusedVariables false
namespace Go.Proofs.YtlefdgplobifiaaGreatDoor
open Go Go.ChangeShapes Go.WideShapes Go.Deep
def Old (W : World) (_ : Unit) : HProp := All W
theorem SatL.old (W : World) : SatL W [own Old W ()] := SatL.all W
theorem SatL.old_below {W w : World} {r : List HProp} (h : SatL w (own Old W () :: r)) : Go.RowKit.Below W.heap.size W w := SatL.below h
theorem SatL.old_cell {W w : World} {r : List HProp} {a : Addr} {v : Value} (h : SatL w (own Old W () :: r)) (hc : W.cell? a = some v) : w.cell? a = some v := by
  have hb := h.old_below
  have hlt : a.block < W.heap.size := by
    unfold World.cell? at hc
    cases hg : W.heap[a.block]? with
    | none => simp [hg] at hc
    | some o => exact (Array.getElem?_eq_some_iff.1 hg).1
  rw [hb.cell hlt]; exact hc
theorem LD_old {α : Type} {mk : α → Value} {W w : World} {l r : List HProp} {a : Addr} {x : α} {k : α → World → Prop} (hw : SatL w l) [f : FindO l Old W () r] (hc : W.cell? a = some (mk x)) (hk : k x w) : LD mk a k w :=
  ⟨x, (hw.find (A := Old) W).old_cell hc, hk⟩
/-- In world W the slice s holds, in n cells an element, what f says of xs. -/
def SliceIn {α : Type} (W : World) (n : Nat) (f : α → List Value) (s : Sl) (xs : List α) : Prop :=
  s.2.1 = xs.length ∧ (xs ≠ [] → ∃ a, s.1 = some a) ∧ ∀ i x a j v, xs[i]? = some x → s.1 = some a → (f x)[j]? = some v → W.cell? (a.add (i * n + j)) = some v
theorem IX_in {α : Type} {W : World} {n : Nat} {f : α → List Value} {s : Sl} {xs : List α} {i : Int} {x : α} {k : Addr → Prop} (h : SliceIn W n f s xs) (h0 : 0 ≤ i) (hx : xs[i.toNat]? = some x)
    (hk : ∀ a : Addr, (∀ (j : Nat) v, (f x)[j]? = some v → W.cell? ((a.add (i.toNat * n)).add j) = some v) → k (a.add (i.toNat * n))) : IX s i n k := by
  obtain ⟨h1, h2, h3⟩ := h
  have hlt := (List.getElem?_eq_some_iff.1 hx).1
  obtain ⟨a, ha⟩ := h2 (by rintro rfl; simp at hx)
  exact ⟨a, ha, h0, by omega, hk a fun j v hj => by rw [Go.Deep.add_add]; exact h3 _ x a j v hx ha hj⟩
section
variable {H : Type} {enc : TypeId × Value → H} {P : Program} {w : World} {base : Nat} {r : Reach} {b0 : Nat}
theorem some_list {α : Type} {p : Nat → α → Prop} : ∀ n : Nat, (∀ i, i < n → ∃ x, p i x) → ∃ xs : List α, xs.length = n ∧ ∀ i x, xs[i]? = some x → p i x
  | 0, _ => ⟨[], rfl, by simp⟩
  | n + 1, h => by
    obtain ⟨xs, h1, h2⟩ := some_list n fun i hi => h i (by omega)
    obtain ⟨x, hx⟩ := h n (by omega)
    refine ⟨xs ++ [x], by simp [h1], fun i y hy => ?_⟩
    by_cases hi : i < n
    · rw [List.getElem?_append_left (by omega)] at hy; exact h2 i y hy
    · rw [List.getElem?_append_right (by omega)] at hy
      have : i = n := by have := (List.getElem?_eq_some_iff.1 hy).1; simp at this; omega
      subst this
      rw [h1, Nat.sub_self] at hy
      simp at hy; subst hy; exact hx
/-- A slice of structs whose fields are all ints. -/
theorem open_int_structs {t e f0 : TypeId} {fs : Array Field} {v : Value} {d : DataW H} {ps : List MemPlace} {n : Nat} (ht : P.underlying t = some (.slice e)) (he : P.underlying e = some (.struct fs)) (hn : fs.size = n) (hC : P.cellsOf e = n)
    (hf : ∀ (j : Nat) (f : Field), fs[j]? = some f → f.offset = j ∧ f.type = f0) (hf0 : P.underlying f0 = some (.int .i64)) (hc0 : P.cellsOf f0 = 1) (hv : Value.okWide P w r b0 t v) (h : DataW.Trod enc P w base (fun _ => true) true t v d ps) :
    ∃ (s : Sl) (xs : List (List Int)), v = slv s ∧ (∀ x ∈ xs, x.length = n ∧ ∀ z ∈ x, (Lit.int .i64 z).wf = true) ∧ SliceIn w n (fun x => x.map (Value.int .i64)) s xs := by
  obtain ⟨fuel, h⟩ := h
  obtain ⟨o, len0, cap0, rfl⟩ := okWide_slice ht hv
  rcases open_slice ht h with ⟨hcs, _⟩ | ⟨a, len, cap, m, fu, D, Pl, hcs, hb, hl, hm, hmm, hx, hi⟩
  · simp [Value.cells] at hcs
    obtain ⟨rfl, rfl, rfl⟩ := hcs
    exact ⟨(none, 0, 0), [], rfl, by simp, rfl, by simp, by simp⟩
  · simp [Value.cells] at hcs
    obtain ⟨rfl, rfl, rfl⟩ := hcs
    have hmc : m = cap0 := by simpa using hmm
    obtain ⟨xs, h1, h2⟩ := some_list (α := List Int) (p := fun i x => x.length = n ∧ (∀ z ∈ x, (Lit.int .i64 z).wf = true) ∧ ∀ j v, (x.map (Value.int .i64))[j]? = some v → w.cell? (a.add (i * n + j)) = some v) len0 fun i hilt => by
      obtain ⟨cs', hc, htr⟩ := hi i (by omega)
      rw [hC] at hc
      obtain ⟨ys, n', _, _, hlen, hyl, hfl⟩ := DataW.trod_struct he htr
      obtain ⟨_, hcl, hat⟩ := World.cells?_some hc
      obtain ⟨zs, hz1, hz2⟩ := some_list (α := Int) (p := fun j z => cs'[j]? = some (.int .i64 z) ∧ (Lit.int .i64 z).wf = true) n fun j hj => by
        obtain ⟨f, hfj⟩ : ∃ f, fs[j]? = some f := ⟨_, Array.getElem?_eq_getElem (by omega)⟩
        obtain ⟨ho, hty⟩ := hf j f hfj
        have h3 := hfl j f hfj
        rw [ho, hty, hc0] at h3
        have hjl : j < cs'.length := by omega
        have hone : (cs'.drop j).take 1 = [cs'[j]] := by rw [List.drop_eq_getElem_cons hjl]; rfl
        rw [hone, List.getElem?_eq_getElem (by omega)] at h3
        obtain ⟨z, hzz, _, hw⟩ := DataW.trod_int hf0 h3
        exact ⟨z, by rw [List.getElem?_eq_getElem hjl]; simpa using hzz, hw⟩
      refine ⟨zs, hz1, fun z hz => ?_, fun j v hv => ?_⟩
      · obtain ⟨j, hj⟩ := List.getElem?_of_mem hz; exact (hz2 j z hj).2
      · rw [List.getElem?_map] at hv
        cases hzj : zs[j]? with
        | none => rw [hzj] at hv; cases hv
        | some z =>
          rw [hzj] at hv; cases hv
          have hjn : j < n := by have := (List.getElem?_eq_some_iff.1 hzj).1; omega
          have h4 := hat j hjn
          rw [(hz2 j z hzj).1] at h4
          rw [← Go.Deep.add_add]; exact h4
    refine ⟨(some a, len0, cap0), xs, rfl, fun x hx => ?_, h1.symm, fun _ => ⟨a, rfl⟩, fun i x a' j v hix ha hj => ?_⟩
    · obtain ⟨i, hix⟩ := List.getElem?_of_mem hx
      obtain ⟨h3, h4, _⟩ := h2 i x hix
      exact ⟨h3, h4⟩
    · cases ha
      exact (h2 i x hix).2.2 j v hj
theorem open_bool_slice {t e : TypeId} {v : Value} {d : DataW H} {ps : List MemPlace} (ht : P.underlying t = some (.slice e)) (he : P.underlying e = some .bool) (hC : P.cellsOf e = 1) (hv : Value.okWide P w r b0 t v) (h : DataW.Trod enc P w base (fun _ => true) true t v d ps) :
    ∃ (s : Sl) (xs : List Bool), v = slv s ∧ SliceIn w 1 (fun x => [Value.bool x]) s xs := by
  obtain ⟨fuel, h⟩ := h
  obtain ⟨o, len0, cap0, rfl⟩ := okWide_slice ht hv
  rcases open_bools ht he hC h with ⟨hcs, _⟩ | ⟨a, len, cap, B, hcs, hb, hl, hm, hx, hi⟩
  · simp [Value.cells] at hcs
    obtain ⟨rfl, rfl, rfl⟩ := hcs
    exact ⟨(none, 0, 0), [], rfl, rfl, by simp, by simp⟩
  · simp [Value.cells] at hcs
    obtain ⟨rfl, rfl, rfl⟩ := hcs
    refine ⟨(some a, len0, cap0), (List.range len0).map B, rfl, by simp, fun _ => ⟨a, rfl⟩, fun i x a' j v hix ha hj => ?_⟩
    cases ha
    have hil : i < len0 := by have := (List.getElem?_eq_some_iff.1 hix).1; simpa using this
    simp [List.getElem?_map, List.getElem?_range hil] at hix
    subst hix
    cases j with
    | zero => simp at hj; subst hj; rw [Nat.mul_one, Nat.add_zero]; exact hi i (by omega)
    | succ j => simp at hj
end
end Go.Proofs.YtlefdgplobifiaaGreatDoor
