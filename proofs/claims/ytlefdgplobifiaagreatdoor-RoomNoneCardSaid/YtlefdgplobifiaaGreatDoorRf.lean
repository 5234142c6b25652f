/- Ranges over functions, and their rounds, over separating lists. A search for many chunks at once. -/
import Derived.Test.YtlefdgplobifiaaGreatDoorKit0
import Derived.RangeFuncNested
set_option linter.unusedVariables false
namespace Go.Proofs.YtlefdgplobifiaaGreatDoor
open Go

/-- l' is a part of l, in another order. -/
class SubH (l l' : List HProp) : Prop where
  sat : ∀ {x : HL}, sepL l x → sepL l' x
instance SubH.nil (l : List HProp) : SubH l [] := ⟨fun _ => trivial⟩
instance (priority := 2000) SubH.rfl' (l : List HProp) : SubH l l := ⟨fun h => h⟩
instance SubH.cons {κ σ : Type} (A : κ → σ → HProp) (a : κ) (x : σ) (l r l' : List HProp) [f : FindO l A a x r] [s : SubH r l'] : SubH l (own A a x :: l') :=
  ⟨fun h => by
    obtain ⟨p, q, hd, e, hA, H⟩ := sepL_perm f.perm h
    exact ⟨p, q, hd, e, hA, s.sat H⟩⟩
instance (priority := 100) SubH.skip (B : HProp) (l l' : List HProp) [s : SubH l l'] : SubH (B :: l) l' :=
  ⟨fun {x} h => by
    obtain ⟨p, q, hd, e, hA, H⟩ := h
    rw [e]; exact sepL_more hd (s.sat H)⟩
instance FindO.app_cons {κ σ : Type} (A : κ → σ → HProp) (a : κ) (x : σ) (B : HProp) (l1 l2 r : List HProp) [h : FindO (B :: (l1 ++ l2)) A a x r] : FindO ((B :: l1) ++ l2) A a x r := ⟨h.perm⟩
instance FindO.app_nil {κ σ : Type} (A : κ → σ → HProp) (a : κ) (x : σ) (l2 r : List HProp) [h : FindO l2 A a x r] : FindO ([] ++ l2) A a x r := ⟨h.perm⟩
instance SubH.to_cons (B : HProp) (l l1 l2 : List HProp) [h : SubH l (B :: (l1 ++ l2))] : SubH l ((B :: l1) ++ l2) := ⟨h.sat⟩
instance SubH.to_nil (l l2 : List HProp) [h : SubH l l2] : SubH l ([] ++ l2) := ⟨h.sat⟩
instance (priority := 50) SubH.of_cons (B : HProp) (l l1 l2 : List HProp) [h : SubH (B :: (l1 ++ l2)) l] : SubH ((B :: l1) ++ l2) l := ⟨h.sat⟩
instance (priority := 50) SubH.of_nil (l l2 : List HProp) [h : SubH l2 l] : SubH ([] ++ l2) l := ⟨h.sat⟩
theorem SatL.sub {w : World} {l : List HProp} (h : SatL w l) {l' : List HProp} [s : SubH l l'] : SatL w l' := s.sat (x := HL.of w) h

def recO (fn : FuncId) (tmps : Array Value) (ps : Array Tmp) (x y : Code) (D : Nat) (st : LoopState) (pe : Option Code) : Loop :=
  { state := st, pending := pe, fn, tmps, params := ps, assign := x, body := y, defers := D }
/-- Behind the iterator: no jump is pending, or one is. -/
def RFend (P : Program) (r : Option Nat) (L : Nat) (rec : LoopState → Option Code → Loop) (Q : Exit → Act → World → Prop) (a : Act) (w : World) : Prop :=
  (∃ l, SatL w (own Blk L (.loop (rec .ready none)) :: l) ∧ ∀ w', SatL w' (own Blk L (.loop (rec .exhausted none)) :: l) → Q .normal a w') ∨
  (∃ c l, SatL w (own Blk L (.loop (rec .done (some c))) :: l) ∧ ∀ w', SatL w' (own Blk L (.loop (rec .exhausted (some c))) :: l) → c.wpIn (Wd r) 0 P Q a w')
section
variable {P : Program} {w : World} {l : List HProp} {g : Operand} {ps : Array Tmp} {x y : Code} {Q : Exit → Act → World → Prop} {a : Act}
theorem rangePost_of {r : Option Nat} {L : Nat} {fn : FuncId} {tmps : Array Value} {D : Nat} {v : Value} (h : RFend P r L (recO fn tmps ps x y D) Q a w) : rangePost (Wd r) 0 P L Q a (.returned v) w := by
  rcases h with ⟨l, h1, h2⟩ | ⟨c, l, h1, h2⟩
  · exact ⟨none, _, run_endLoop h1.get (by simp [recO]), h2 _ (h1.put _)⟩
  · exact ⟨some c, _, run_endLoop h1.get (by simp [recO]), h2 _ (h1.put _)⟩
/-- A range over a function, outside any round. -/
theorem RF_o {gf : Nat} {first cap : Array Value} (hv : a.eval g = .func (.func gf) first cap) (hent : ∀ args w, (callFunc gf args).run P w = .ok (.enter gf args) w) (hw : SatL w l)
    (h : ∀ fn L D w1, SatL w1 (own Blk L (.loop (recO fn a.tmps ps x y D .ready none)) :: own Blk D (.deferred (some [])) :: l) →
      CALL P gf (first.toList ++ [Value.func (.yield L) #[] #[]] ++ cap.toList).toArray (fun _ w2 => RFend P none L (recO fn a.tmps ps x y D) Q { a with defers := { target := .collected D, args := #[] } :: a.defers } w2) w1) :
    (Code.rangeFunc g ps x y).wpIn (Wd none) 0 P Q a w := by
  refine wpIn_rangeFunc ?_
  intro fn _
  have h1 := (hw.alloc (.deferred (some []))).alloc (.loop (recO fn a.tmps ps x y w.heap.size .ready none))
  rw [World.size_alloc] at h1
  have h2 := h fn _ _ _ h1
  obtain ⟨W1, hW1⟩ : ∃ W, W = (w.alloc (.deferred (some []))).alloc (.loop (recO fn a.tmps ps x y w.heap.size .ready none)) := ⟨_, rfl⟩
  rw [← hW1] at h2
  refine ⟨w.heap.size + 1, [{ target := .collected w.heap.size, args := #[] }], W1, { target := .fn (.func gf) cap, args := first ++ #[.func (.yield (w.heap.size + 1)) #[] #[]] }, W1, gf,
    first ++ #[.func (.yield (w.heap.size + 1)) #[] #[]] ++ cap, W1, hW1 ▸ run_enterLoop_outer _ _ _ _ _, ?_, fun _ _ => trivial, ?_, (fun h => by cases h), ?_⟩
  · simp only [resolve, hv]
    simp [go_sem]
  · simp [invoke, go_sem, hent]
  · have e : (first.toList ++ [Value.func (.yield (w.heap.size + 1)) #[] #[]] ++ cap.toList).toArray = first ++ #[.func (.yield (w.heap.size + 1)) #[] #[]] ++ cap := by
      apply Array.ext'; simp
    rw [e] at h2
    obtain ⟨⟨_, h3⟩ | ⟨v, w', h3, _⟩⟩ := h2
    · refine calls_wd (h3.mono ?_)
      rintro e w2 ⟨v, rfl, hv⟩
      exact rangePost_of hv
    · rw [hent] at h3; cases h3
/-- A range over a function, in a round of loop l0. -/
theorem RF_i {gf l0 : Nat} {r0 : Loop} {r : List HProp} {first cap : Array Value} (hv : a.eval g = .func (.func gf) first cap) (hent : ∀ args w, (callFunc gf args).run P w = .ok (.enter gf args) w) (hw : SatL w l)
    [f : FindO l Blk l0 (.loop r0) r]
    (h : ∀ fn L w1, SatL w1 (own Blk L (.loop (recO fn a.tmps ps x y r0.defers .ready none)) :: l) →
      CALL P gf (first.toList ++ [Value.func (.yield L) #[] #[]] ++ cap.toList).toArray (fun _ w2 => RFend P (some l0) L (recO fn a.tmps ps x y r0.defers) Q a w2) w1) :
    (Code.rangeFunc g ps x y).wpIn (Wd (some l0)) 0 P Q a w := by
  refine wpIn_rangeFunc ?_
  intro fn _
  have h1 := hw.alloc (.loop (recO fn a.tmps ps x y r0.defers .ready none))
  have h2 := h fn _ _ h1
  obtain ⟨W1, hW1⟩ : ∃ W, W = w.alloc (.loop (recO fn a.tmps ps x y r0.defers .ready none)) := ⟨_, rfl⟩
  rw [← hW1] at h2
  refine ⟨w.heap.size, [], W1, { target := .fn (.func gf) cap, args := first ++ #[.func (.yield w.heap.size) #[] #[]] }, W1, gf,
    first ++ #[.func (.yield w.heap.size) #[] #[]] ++ cap, W1, hW1 ▸ run_enterLoop_inner (hw.find (A := Blk) l0).get _ _ _ _ _, ?_, fun _ _ => trivial, ?_, (fun h => by cases h), ?_⟩
  · simp only [resolve, hv]
    simp [go_sem]
  · simp [invoke, go_sem, hent]
  · have e : (first.toList ++ [Value.func (.yield w.heap.size) #[] #[]] ++ cap.toList).toArray = first ++ #[.func (.yield w.heap.size) #[] #[]] ++ cap := by
      apply Array.ext'; simp
    rw [e] at h2
    obtain ⟨⟨_, h3⟩ | ⟨v, w', h3, _⟩⟩ := h2
    · refine calls_wd (h3.mono ?_)
      rintro e w2 ⟨v, rfl, hv⟩
      exact rangePost_of hv
    · rw [hent] at h3; cases h3

/-- A round's end. -/
def rdE (L : Nat) (rec : LoopState → Option Code → Loop) (K : Value → World → Prop) : Exit → World → Prop
  | .normal, w => ∃ l, SatL w (own Blk L (.loop (rec .busy none)) :: l) ∧ ∀ w', SatL w' (own Blk L (.loop (rec .ready none)) :: l) → K (.bool true) w'
  | .ret, w => ∃ l, SatL w (own Blk L (.loop (rec .busy none)) :: l) ∧ ∀ w', SatL w' (own Blk L (.loop (rec .done (some .ret))) :: l) → K (.bool false) w'
  | .exit id, w => ∃ l, SatL w (own Blk L (.loop (rec .busy none)) :: l) ∧ ∀ w', SatL w' (own Blk L (.loop (rec .done (some (.exit id)))) :: l) → K (.bool false) w'
  | _, _ => False
/-- A round's begin. -/
def BG (L : Nat) (rec : LoopState → Option Code → Loop) (F : World → Prop) (w : World) : Prop :=
  ∃ l, SatL w (own Blk L (.loop (rec .ready none)) :: l) ∧ ∀ w', SatL w' (own Blk L (.loop (rec .busy none)) :: l) → F w'
theorem rdQ_post {L : Nat} {fn : FuncId} {tmps : Array Value} {D : Nat} {K : Value → World → Prop} {e : Exit} (h : rdE L (recO fn tmps ps x y D) K e w) : roundPost P L (fun e w' => ∃ v, e = .returned v ∧ K v w') e a w := by
  cases e with
  | normal => obtain ⟨l, h1, h2⟩ := h; exact ⟨_, _, run_endRound none h1.get, _, rfl, h2 _ (h1.put _)⟩
  | ret => obtain ⟨l, h1, h2⟩ := h; exact ⟨_, _, run_endRound (some .ret) h1.get, _, rfl, h2 _ (h1.put _)⟩
  | exit id => obtain ⟨l, h1, h2⟩ := h; exact ⟨_, _, run_endRound (some (.exit id)) h1.get, _, rfl, h2 _ (h1.put _)⟩
  | goto _ => exact h.elim
  | panic _ => exact h.elim
  | outgrown => exact h.elim
/-- The call of a loop's yield: a round. -/
theorem YLD_r {L : Nat} {fn : FuncId} {tmps args t : Array Value} {D : Nat} {K : Value → World → Prop} (hw : SatL w (own Blk L (.loop (recO fn tmps ps x y D .ready none)) :: l)) (hs : args.size = ps.size) (ht : (ps.zip args).foldl (fun tmps (t, a) => tmps.setIfInBounds t a) tmps = t)
    (h : x.wpIn (Wd (some L)) 0 P (Exit.then (fun a1 w1 => BG L (recO fn tmps ps x y D) (fun w2 => y.wpIn (Wd (some L)) 0 P (fun e _ w => rdE L (recO fn tmps ps x y D) K e w) a1 w2) w1) (fun _ _ _ => False))
      { tmps := t, defers := [] } w) : YLD P L args K w := by
  refine ⟨_, hw.get, hs, ?_⟩
  subst ht
  refine roundIn_of_wpIn trivial ?_
  refine wpIn_mono h ?_
  intro e a1 w1 he
  cases e with
  | normal =>
    obtain ⟨l1, h1, h2⟩ := he
    refine ⟨_, run_beginRound h1.get rfl, ?_⟩
    refine wpIn_mono (h2 _ (h1.put _)) ?_
    intro e a2 w2 he
    exact rdQ_post he
  | _ => exact he
theorem round_of (hm : P.follows .mixedOrders = true) {r : Option Nat} {L : Nat} {rec : LoopState → Option Code → Loop} {q : Exit → World → Prop}
    (h : den P r x (Exit.then (fun a w => BG L rec (fun w => den P r y (fun e _ w => q e w) a w) w) (fun _ _ _ => False)) a w) :
    x.wpIn (Wd r) 0 P (Exit.then (fun a w => BG L rec (fun w => y.wpIn (Wd r) 0 P (fun e _ w => q e w) a w) w) (fun _ _ _ => False)) a w := by
  refine wpIn_mono (den_wp hm _ _ _ _ h) ?_
  intro e a1 w1 he
  cases e with
  | normal =>
    obtain ⟨l1, h1, h2⟩ := he
    exact ⟨l1, h1, fun w2 hw2 => den_wp hm _ _ _ _ (h2 w2 hw2)⟩
  | _ => exact he
theorem closeD_r {D : Nat} {r : List HProp} {K : World → Prop} {ds : List Deferred} (hw : SatL w l) [f : FindO l Blk D (.deferred (some [])) r] (hk : ∀ w', SatL w' (own Blk D (.deferred none) :: r) → closeD K ds w') :
    closeD K ({ target := .collected D, args := #[] } :: ds) w :=
  ⟨(hw.find (A := Blk) D).get, hk _ ((hw.find (A := Blk) D).put _)⟩
end
/-- An iterator: asked with a yield that keeps J (and the iterator's own chunks T) from item to item, it comes through. -/
def ITER (P : Program) {α : Type} (gf : Nat) (first cap : Array Value) (xs : List α) (enc : α → Array Value) (T : List HProp) : Prop :=
  ∀ (L : Nat) (J : Nat → List HProp → Prop) (E : World → Prop) (k : Value → World → Prop) (w : World) (l : List HProp), J 0 l → SatL w (T ++ l) →
    (∀ i x w l, xs[i]? = some x → J i l → SatL w (T ++ l) → YLD P L (enc x) (fun v w' => (v = .bool true ∧ ∃ l', J (i + 1) l' ∧ SatL w' (T ++ l')) ∨ (v = .bool false ∧ E w')) w) →
    (∀ l w, J xs.length l → SatL w (T ++ l) → k (.tuple #[]) w) → (∀ w, E w → k (.tuple #[]) w) → CALL P gf (first.toList ++ [Value.func (.yield L) #[] #[]] ++ cap.toList).toArray k w
end Go.Proofs.YtlefdgplobifiaaGreatDoor
