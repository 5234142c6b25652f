/- What the printed texts use: a piece of code by its path, the drawn region's two forms, loops by a measure, rules for the primitives over separating lists. -/
import Derived.Test.YtlefdgplobifiaaGreatDoorDenR
namespace Go.Proofs.YtlefdgplobifiaaGreatDoor
open Go

def codeAt : Code → List Nat → Code
  | c, [] => c
  | .seq a _, 0 :: p => codeAt a p
  | .seq _ b, 1 :: p => codeAt b p
  | .cond _ a _, 0 :: p => codeAt a p
  | .cond _ _ b, 1 :: p => codeAt b p
  | .block _ b, 0 :: p => codeAt b p
  | .loop b, 0 :: p => codeAt b p
  | .scope b, 0 :: p => codeAt b p
  | .rangeFunc _ _ a _, 0 :: p => codeAt a p
  | .rangeFunc _ _ _ b, 1 :: p => codeAt b p
  | c, _ => c
def DR (F : World → Prop) (w : World) : Prop := F w.drew
def DRC (F : (World → Prop) → World → Prop) (w : World) : Prop := ∃ C : World → Prop, C w.drew ∧ F C w.drew
def STL {α : Type} (C : World → Prop) (mk : α → Value) (a : Addr) (k : α → Prop) : Prop := ∃ n, (∀ w', C w' → LD mk a (fun m w'' => mk m = mk n ∧ w'' = w') w') ∧ k n

theorem exists_min {p : Nat → Prop} (h : ∃ m, p m) : ∃ m, p m ∧ ∀ k, p k → m ≤ k := by
  obtain ⟨m, hm⟩ := h
  induction m using Nat.strongRecOn with
  | _ m ih =>
    by_cases hk : ∃ k, k < m ∧ p k
    · obtain ⟨k, hlt, hk⟩ := hk; exact ih k hlt hk
    · exact ⟨m, hm, fun k hpk => Nat.le_of_not_lt fun hlt => hk ⟨k, hlt, hpk⟩⟩
section
variable {P : Program} {r : Option Nat} {Q : Exit → Act → World → Prop} {w : World} {a : Act}
open Classical in
theorem loop_ind {c : Code} (I : Nat → Act → World → Prop) (round : ∀ m a w, I m a w → c.wpIn (Wd r) 0 P (Exit.then (fun a' w' => ∃ m', m' < m ∧ I m' a' w') Q) a w) (m : Nat) (h : I m a w) : (Code.loop c).wpIn (Wd r) 0 P Q a w := by
  refine wpIn_loop (fun a w => ∃ m, I m a w) (fun a w => if h : ∃ m, I m a w then (exists_min h).choose else 0) ⟨m, h⟩ ?_
  intro a w h
  have hs := (exists_min h).choose_spec
  refine wpIn_mono (round _ a w hs.1) ?_
  intro e a' w' he
  cases e with
  | normal =>
    obtain ⟨m', hlt, hI⟩ := he
    refine ⟨⟨m', hI⟩, ?_⟩
    simp only [dif_pos h, dif_pos (⟨m', hI⟩ : ∃ m, I m a' w')]
    exact Nat.lt_of_le_of_lt ((exists_min ⟨m', hI⟩).choose_spec.2 m' hI) hlt
  | _ => exact he
theorem calls_of_den' {f : FuncId} {fn : Func} {c : Code} {args t : Array Value} {rs : List ResultVar} {k : Value → World → Prop} (hm : P.follows .mixedOrders = true) (hf : P.funcs[f]? = some fn) (hb : fn.body = some c)
    (hc : (callFunc f args).run P w = .ok (.enter f args) w) (ht : args ++ Array.replicate (fn.ntmps - args.size) undef = t) (hr : fn.results.toList = rs)
    (h : den P none c (retQ P rs k) { tmps := t, defers := [] } w) : CALL P f args k w := by
  subst ht; subst hr
  exact calls_of_den hm hf hb hc h
end

/-! ### The primitives over separating lists -/
section
variable {P : Program} {w : World} {l r : List HProp}
theorem Addr.add_mk (b i n : Nat) : Addr.add ⟨b, i, none⟩ n = ⟨b, i + n, none⟩ := by
  unfold Addr.add; split
  · rename_i h; simp [h]
  · rfl
theorem cell_of {b i : Nat} {cs : Array Value} {t : TypeId} {fz : Nat × Nat} (h : w.heap[b]? = some (.cells cs t fz)) : w.cell? ⟨b, i, none⟩ = cs[i]? := by simp [World.cell?, h]
theorem frozen_of {b i : Nat} {cs : Array Value} {t : TypeId} (h : w.heap[b]? = some (.cells cs t (0, 0))) : w.frozen? ⟨b, i, none⟩ = false := by simp [World.frozen?, h]
theorem setCell_of {b i : Nat} {cs : Array Value} {t : TypeId} {fz : Nat × Nat} {v : Value} (h : w.heap[b]? = some (.cells cs t fz)) : w.setCell ⟨b, i, none⟩ v = w.putObj b (.cells (cs.setIfInBounds i v) t fz) := by
  unfold World.setCell World.putObj
  congr 1
  apply Array.ext_getElem?
  intro n
  by_cases hn : b = n
  · subst hn
    have hlt := (Array.getElem?_eq_some_iff.1 h).1
    rw [Array.getElem?_modify, if_pos rfl, h, Array.getElem?_setIfInBounds_self_of_lt hlt]
    rfl
  · simp [Array.getElem?_modify, hn]

theorem LD_r {α : Type} {mk : α → Value} {b i : Nat} {cs : Array Value} {t : TypeId} {fz : Nat × Nat} {k : α → World → Prop} (hw : SatL w l) [f : FindO l Blk b (.cells cs t fz) r] {x : α} (hi : cs[i]? = some (mk x)) (hk : k x w) : LD mk ⟨b, i, none⟩ k w :=
  ⟨x, by rw [cell_of (hw.find b).get]; exact hi, hk⟩
theorem ST_r {b i : Nat} {cs : Array Value} {t : TypeId} {v : Value} {k : World → Prop} (hw : SatL w l) [f : FindO l Blk b (.cells cs t (0, 0)) r] (hi : i < cs.size) (hv : v.oneCell' = true)
    (hk : ∀ w', SatL w' (own Blk b (.cells (cs.setIfInBounds i v) t (0, 0)) :: r) → k w') : ST ⟨b, i, none⟩ v k w := by
  have h := hw.find (A := Blk) b
  refine ⟨hv, ⟨cs[i], by rw [cell_of h.get]; simp [hi]⟩, frozen_of h.get, ?_⟩
  rw [setCell_of h.get]
  exact hk _ (h.put _)
theorem AL_r {o : Obj} {k : Nat → World → Prop} (hw : SatL w l) (hk : ∀ b w', SatL w' (own Blk b o :: l) → k b w') : AL o k w := hk _ _ (hw.alloc o)
theorem DR_r {F : World → Prop} (hw : SatL w l) (hk : ∀ w', SatL w' l → F w') : DR F w := hk _ hw
theorem DRC_r {F : (World → Prop) → World → Prop} (hw : SatL w l) (hk : ∀ w', SatL w' l → F (fun w => SatL w l) w') : DRC F w := ⟨_, hw, hk _ hw⟩
theorem STL_r {α : Type} {mk : α → Value} {b i : Nat} {cs : Array Value} {t : TypeId} {fz : Nat × Nat} {k : α → Prop} [f : FindO l Blk b (.cells cs t fz) r] {x : α} (hi : cs[i]? = some (mk x)) (hk : k x) : STL (fun w => SatL w l) mk ⟨b, i, none⟩ k :=
  ⟨x, fun _ hw => LD_r hw hi ⟨rfl, rfl⟩, hk⟩
theorem NN_r {a : Addr} {k : Addr → Prop} (hk : k a) : NN (some a) k := hk
theorem FNIL_f {f : Fn} {a b : Array Value} {k : Bool → Prop} (hk : k false) : FNIL (.func f a b) k := hk
theorem brT {c : Bool} {X Y : Prop} (h : c = true) (hX : X) : brK c X Y := by subst h; exact hX
theorem brF {c : Bool} {X Y : Prop} (h : c = false) (hY : Y) : brK c X Y := by subst h; exact hY
theorem br {c : Bool} {X Y : Prop} (hX : c = true → X) (hY : c = false → Y) : brK c X Y := by cases c; exact hY rfl; exact hX rfl
theorem brD {p : Prop} [Decidable p] {X Y : Prop} (hX : p → X) (hY : ¬ p → Y) : brK (decide p) X Y := br (fun h => hX (of_decide_eq_true h)) (fun h => hY (of_decide_eq_false h))
theorem brE {α : Type} [BEq α] [LawfulBEq α] {x y : α} {X Y : Prop} (hX : x = y → X) (hY : x ≠ y → Y) : brK (x == y) X Y := br (fun h => hX (by simpa using h)) (fun h => hY (by simpa using h))
theorem brN {c : Bool} {X Y : Prop} (h : brK c Y X) : brK (!c) X Y := by cases c <;> exact h
end
end Go.Proofs.YtlefdgplobifiaaGreatDoor
