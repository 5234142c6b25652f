/- Regions that draw their order: the still operations first, whatever order the tape picks. -/
import Derived.Test.YtlefdgplobifiaaGreatDoorDenC
set_option linter.unusedSimpArgs false
set_option linter.unusedVariables false
namespace Go.Proofs.YtlefdgplobifiaaGreatDoor
open Go

section
variable {P : Program} {r : Option Nat} {Q : Exit → Act → World → Prop} {w : World} {a : Act} {k : Value → World → Prop}

theorem ldCell_pin {t : TypeId} {p : Addr} (h : ldCell P t p k w) : ∃ v, ldCell P t p (fun u w' => u = v ∧ w' = w) w ∧ k v w := by
  unfold ldCell at h ⊢
  split at h
  all_goals first
    | exact h.elim
    | (obtain ⟨x, h1, h2⟩ := h
       exact ⟨_, ⟨x, h1, rfl, rfl⟩, h2⟩)
theorem ldCell_mono {t : TypeId} {p : Addr} {k k' : Value → World → Prop} (hk : ∀ v w, k v w → k' v w) (h : ldCell P t p k w) : ldCell P t p k' w := by
  unfold ldCell at h ⊢
  split at h
  all_goals first
    | exact h.elim
    | (obtain ⟨x, h1, h2⟩ := h
       exact ⟨x, h1, hk _ _ h2⟩)
theorem ldAgg_pin {p : Addr} : ∀ (ts : List TypeId) (i : Nat) {k : List Value → World → Prop}, ldAgg P p ts i k w → ∃ l, ldAgg P p ts i (fun u w' => u = l ∧ w' = w) w ∧ k l w
  | [], i, k, h => ⟨_, ⟨rfl, rfl⟩, h⟩
  | t :: ts, i, k, h => by
    obtain ⟨v, h1, h2⟩ := ldCell_pin (h : ldCell P t (p.add i) _ w)
    obtain ⟨l, h3, h4⟩ := ldAgg_pin ts (i + 1) h2
    refine ⟨v :: l, ?_, h4⟩
    show ldCell P t (p.add i) _ w
    refine ldCell_mono ?_ h1
    rintro v' w' ⟨rfl, rfl⟩
    have mono : ∀ (ts : List TypeId) (i : Nat) (k k' : List Value → World → Prop), (∀ l w, k l w → k' l w) → ∀ w, ldAgg P p ts i k w → ldAgg P p ts i k' w := by
      intro ts
      induction ts with
      | nil => intro i k k' hk w h; exact hk _ _ h
      | cons t ts ih => intro i k k' hk w h; exact ldCell_mono (fun v w h => ih (i + 1) _ _ (fun l w h => hk _ _ h) w h) h
    refine mono ts (i + 1) _ _ ?_ _ h3
    rintro l' w'' ⟨rfl, rfl⟩
    exact ⟨rfl, rfl⟩
theorem ldV_pin {t : TypeId} {p : Addr} (h : ldV P t p k w) : ∃ v, ldV P t p (fun u w' => u = v ∧ w' = w) w ∧ k v w := by
  unfold ldV at h ⊢
  by_cases h0 : arrT P t = true
  · simp only [if_pos h0] at h ⊢
    split at h
    · obtain ⟨cs, h1, h2, h3⟩ := h
      exact ⟨_, ⟨cs, h1, h2, rfl, rfl⟩, h3⟩
    · exact h.elim
  simp only [if_neg h0] at h ⊢
  by_cases h1 : aggT P t = true
  · simp only [if_pos h1] at h ⊢
    by_cases h2 : Option.map (fun x => x.size) (P.info? t) = some (cellTys P 9 t).length
    · simp only [if_pos h2] at h ⊢
      obtain ⟨l, h3, h4⟩ := ldAgg_pin _ _ h
      refine ⟨_, ?_, h4⟩
      have mono : ∀ (ts : List TypeId) (i : Nat) (k k' : List Value → World → Prop), (∀ l w, k l w → k' l w) → ∀ w, ldAgg P p ts i k w → ldAgg P p ts i k' w := by
        intro ts
        induction ts with
        | nil => intro i k k' hk w h; exact hk _ _ h
        | cons t ts ih => intro i k k' hk w h; exact ldCell_mono (fun v w h => ih (i + 1) _ _ (fun l w h => hk _ _ h) w h) h
      refine mono _ _ _ _ ?_ _ h3
      rintro l' w'' ⟨rfl, rfl⟩
      exact ⟨rfl, rfl⟩
    · rw [if_neg h2] at h
      exact h.elim
  · simp only [if_neg h1] at h ⊢
    exact ldCell_pin h
theorem if_pin {α : Type} {p : Prop} [Decidable p] {X : (α → Prop) → Prop} {q : α → Prop} (h : if p then X q else False) (hX : X q → ∃ v, X (· = v) ∧ q v) : ∃ v, (if p then X (· = v) else False) ∧ q v := by
  by_cases hp : p
  · rw [if_pos hp] at h
    obtain ⟨v, h1, h2⟩ := hX h
    exact ⟨v, by rw [if_pos hp]; exact h1, h2⟩
  · rw [if_neg hp] at h
    exact h.elim
theorem binK_pin {op : BinOp} {x y : Value} {q : Value → Prop} (h : binK op x y q) : ∃ v, binK op x y (· = v) ∧ q v := by
  unfold binK at h ⊢
  split at h
  · exact ⟨_, ⟨h.1, rfl⟩, h.2⟩
  · exact ⟨_, ⟨h.1, rfl⟩, h.2⟩
  · exact if_pin (X := fun q => q _) h fun h => ⟨_, rfl, h⟩
  · exact if_pin (X := fun q => q _) h fun h => ⟨_, rfl, h⟩
  · exact if_pin (X := fun q => q _) h fun h => ⟨_, rfl, h⟩
  · exact if_pin (X := fun q => RQ _ (q _)) h fun h => ⟨_, ⟨h.1, rfl⟩, h.2⟩
  · exact if_pin (X := fun q => RQ _ (q _)) h fun h => ⟨_, ⟨h.1, rfl⟩, h.2⟩
  · exact if_pin (X := fun q => q _) h fun h => ⟨_, rfl, h⟩
  · exact if_pin (X := fun q => q _) h fun h => ⟨_, rfl, h⟩
  · exact if_pin (X := fun q => q _) h fun h => ⟨_, rfl, h⟩
  · exact if_pin (X := fun q => q _) h fun h => ⟨_, rfl, h⟩
  · exact if_pin (X := fun q => q _) h fun h => ⟨_, rfl, h⟩
  · exact if_pin (X := fun q => q _) h fun h => ⟨_, rfl, h⟩
  · exact if_pin (X := fun q => q _) h fun h => ⟨_, rfl, h⟩
  · exact if_pin (X := fun q => q _) h fun h => ⟨_, rfl, h⟩
  · exact if_pin (X := fun q => q _) h fun h => ⟨_, rfl, h⟩
  · exact if_pin (X := fun q => q _) h fun h => ⟨_, rfl, h⟩
  · exact ⟨_, ⟨h.1, rfl⟩, h.2⟩
  · exact ⟨_, rfl, h⟩
  · exact ⟨_, rfl, h⟩
  · exact ⟨_, rfl, h⟩
  · exact ⟨_, rfl, h⟩
  · exact ⟨_, rfl, h⟩
  · exact ⟨_, rfl, h⟩
  · exact h.elim
theorem eqK_pin {t : TypeId} {x y : Value} {q : Bool → Prop} (h : eqK P t x y q) : ∃ b, eqK P t x y (· = b) ∧ q b := by
  unfold eqK at h ⊢
  split at h
  · split at h
    · exact ⟨_, rfl, h⟩
    · exact h.elim
  · split at h
    · refine if_pin (X := fun q => PEQ _ _ q) h fun h => ?_
      unfold PEQ at h ⊢
      split at h
      · exact ⟨_, rfl, h⟩
      · split at h
        · exact ⟨_, rfl, h⟩
        · exact ⟨_, ⟨h.1, rfl⟩, h.2⟩
    · exact h.elim
  all_goals first
    | exact h.elim
    | (split at h
       all_goals first
         | exact h.elim
         | (unfold FNIL at h ⊢
            split at h
            all_goals first
              | exact h.elim
              | exact ⟨_, rfl, h⟩)
         | (unfold INIL at h ⊢
            split at h
            all_goals first
              | exact h.elim
              | exact ⟨_, rfl, h⟩)
         | (by_cases hf : flatT P t = true
            · simp only [if_pos hf] at h ⊢
              split at h
              · exact ⟨_, rfl, h⟩
              · exact h.elim
            · rw [if_neg hf] at h
              exact h.elim)
         | exact ⟨_, rfl, h⟩)
theorem exCell_mono {t : TypeId} {F G : Value → Prop} (hm : ∀ v, F v → G v) (h : exCell P t F) : exCell P t G := by
  unfold exCell at h ⊢
  split at h <;> exact ⟨_, hm _ h.choose_spec⟩
theorem exAgg_mono : ∀ (ts : List TypeId) {F G : List Value → Prop}, (∀ v, F v → G v) → exAgg P ts F → exAgg P ts G
  | [], _, _, hm, h => hm _ h
  | _ :: ts, _, _, hm, h => exCell_mono (fun _ hc => exAgg_mono ts (fun l hl => hm _ hl) hc) h
theorem exV_mono {t : TypeId} {F G : Value → Prop} (hm : ∀ v, F v → G v) (h : exV P t F) : exV P t G := by
  unfold exV at h ⊢
  by_cases h0 : arrT P t = true
  · simp only [if_pos h0] at h ⊢
    obtain ⟨cs, h⟩ := h
    exact ⟨cs, hm _ h⟩
  simp only [if_neg h0] at h ⊢
  by_cases h1 : aggT P t = true
  · simp only [if_pos h1] at h ⊢
    exact exAgg_mono _ (fun l hl => hm _ hl) h
  · simp only [if_neg h1] at h ⊢
    exact exCell_mono hm h
theorem exCell_pin {t : TypeId} {F : Value → Prop} (h : exCell P t F) : ∃ u, F u ∧ exCell P t (· = u) := by
  unfold exCell at h ⊢
  split at h <;> exact ⟨_, h.choose_spec, _, rfl⟩
theorem exAgg_pin : ∀ (ts : List TypeId) {F : List Value → Prop}, exAgg P ts F → ∃ u, F u ∧ exAgg P ts (· = u)
  | [], _, h => ⟨_, h, rfl⟩
  | t :: ts, F, h => by
    obtain ⟨c, h1, h2⟩ := exCell_pin (h : exCell P t fun c => exAgg P ts fun l => F (c :: l))
    obtain ⟨u, h3, h4⟩ := exAgg_pin ts h1
    exact ⟨c :: u, h3, exCell_mono (fun v e => by subst e; exact exAgg_mono ts (fun l hl => by rw [hl]) h4) h2⟩
theorem exV_pin {t : TypeId} {F : Value → Prop} (h : exV P t F) : ∃ u, F u ∧ exV P t (· = u) := by
  unfold exV at h ⊢
  by_cases h0 : arrT P t = true
  · simp only [if_pos h0] at h ⊢
    obtain ⟨cs, h⟩ := h
    exact ⟨_, h, cs, rfl⟩
  simp only [if_neg h0] at h ⊢
  by_cases h1 : aggT P t = true
  · simp only [if_pos h1] at h ⊢
    obtain ⟨u, h2, h3⟩ := exAgg_pin _ h
    exact ⟨_, h2, exAgg_mono _ (fun l hl => by rw [hl]) h3⟩
  · simp only [if_neg h1] at h ⊢
    exact exCell_pin h
theorem nthO_pin {l : List Value} {n : Nat} {q : Value → Prop} (h : nthO l n q) : ∃ v, q v ∧ ∀ q' : Value → Prop, q' v → nthO l n q' := by
  induction l generalizing n with
  | nil => exact h.elim
  | cons x xs ih =>
    cases n with
    | zero => exact ⟨x, h, fun _ h => h⟩
    | succ n => exact ih (n := n) h
theorem takeK_pin {l : List Value} {n : Nat} {q : List Value → Prop} (h : takeK l n q) : ∃ v, q v ∧ ∀ q' : List Value → Prop, q' v → takeK l n q' := by
  induction l generalizing n q with
  | nil => cases n with
    | zero => exact ⟨[], by simpa [takeK] using h, fun _ h => by simpa [takeK] using h⟩
    | succ n => exact h.elim
  | cons x xs ih =>
    cases n with
    | zero => exact ⟨[], by simpa [takeK] using h, fun _ h => by simpa [takeK] using h⟩
    | succ n =>
      obtain ⟨v, h1, h2⟩ := ih (n := n) (q := fun l => q (x :: l)) h
      exact ⟨_, h1, fun q' hq => h2 (fun l => q' (x :: l)) hq⟩
theorem subK_pin {l : List Value} {o n : Nat} {q : List Value → Prop} (h : subK l o n q) : ∃ v, q v ∧ ∀ q' : List Value → Prop, q' v → subK l o n q' := by
  induction l generalizing o with
  | nil => cases o with
    | zero => exact takeK_pin (l := []) h
    | succ o => exact h.elim
  | cons x xs ih =>
    cases o with
    | zero => exact takeK_pin (l := x :: xs) h
    | succ o => exact ih (o := o) h
theorem partK_pin {t : TypeId} {cs : List Value} {off : Nat} {q : Value → Prop} (h : partK P t cs off q) : ∃ v, q v ∧ ∀ q' : Value → Prop, q' v → partK P t cs off q' := by
  unfold partK at h ⊢
  split at h
  · rename_i i d hi hd
    by_cases ha : aggT P t = true
    · rw [if_pos ha] at h
      obtain ⟨l, h1, h2⟩ := subK_pin h
      exact ⟨_, h1, fun q' hq => by rw [if_pos ha]; exact h2 (fun l => q' (.agg l.toArray)) hq⟩
    · rw [if_neg ha] at h
      obtain ⟨v, h1, h2⟩ := nthO_pin h
      exact ⟨_, h1, fun q' hq => by rw [if_neg ha]; exact h2 q' hq⟩
  · exact h.elim
theorem sliceB_pin {x : Option Value} {d y : Nat} {q : Nat → Prop} (h : sliceB x d y q) : ∃ m, q m ∧ ∀ q' : Nat → Prop, q' m → sliceB x d y q' := by
  unfold sliceB at h ⊢
  split at h
  · exact ⟨_, h, fun _ h => h⟩
  · exact ⟨_, h.2, fun _ h' => ⟨h.1, h'⟩⟩
  · exact h.elim

end
end Go.Proofs.YtlefdgplobifiaaGreatDoor
