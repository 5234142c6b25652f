/- Code cut at joins, loops and ranges: each piece is tied by itself; frames as lists of the live slots. -/
import Derived.Test.YtlefdgplobifiaaGreatDoorRf
set_option linter.unusedVariables false
namespace Go.Proofs.YtlefdgplobifiaaGreatDoor
open Go

inductive Cut where
  | none
  | seq (J : Option (Act → World → Prop)) (a b : Cut)
  | cond (a b : Cut)
  | block (a : Cut)
  | scope (a : Cut)
  | reg (i : Nat) (J : Act → World → Prop)
  | at (J : Act → World → Prop)

def opsAt (c : Code) : Array Oper := match c with | .region _ ops _ => ops | _ => #[]
def denC (P : Program) (r : Option Nat) : Cut → Code → (Exit → Act → World → Prop) → Act → World → Prop
  | .none, c, Q, a, w => den P r c Q a w
  | .seq (some J) x _, .seq c _, Q, a, w => denC P r x c (Exit.then J Q) a w
  | .seq none x y, .seq c d, Q, a, w => denC P r x c (Exit.then (denC P r y d Q) Q) a w
  | .cond x y, .cond v c d, Q, a, w => match a.eval v with | .bool t => brK t (denC P r x c Q a w) (denC P r y d Q a w) | _ => False
  | .block x, .block id c, Q, a, w => denC P r x c (Exit.inBlock id Q) a w
  | .scope x, .scope c, Q, a, w => denC P r x c (Exit.noGoto Q) a w
  | .reg i J, .region _ ops draw, _, a, w => match draw with | true => False | false => denOps P ops J (ops.toList.take i) a w
  | .at J, _, _, a, w => J a w
  | _, _, _, _, _ => False
/-- A predicate that serves as what lies ahead. -/
def OKJ (P : Program) (r : Option Nat) (J : Act → World → Prop) (c : Code) (Q : Exit → Act → World → Prop) : Prop := ∀ a w, J a w → c.wpIn (Wd r) 0 P Q a w
/-- A predicate that serves ahead of a region's operations from the i-th on. -/
def OKR (P : Program) (r : Option Nat) (ops : Array Oper) (J : Act → World → Prop) (i : Nat) (Q : Exit → Act → World → Prop) : Prop := ∀ a w, J a w → wpListIn (Wd r) 0 P ops Q (ops.toList.drop i) a w
theorem denOps_part {P : Program} {r : Option Nat} {ops : Array Oper} {Q : Exit → Act → World → Prop} {K : Act → World → Prop} {l2 : List Oper} (hK : ∀ a w, K a w → wpListIn (Wd r) 0 P ops Q l2 a w) : ∀ (l : List Oper) (a : Act) (w : World), denOps P ops K l a w → wpListIn (Wd r) 0 P ops Q (l ++ l2) a w
  | [], _, _, h => hK _ _ h
  | o :: rest, a, w, h => by
    unfold denOps at h
    simp only [putA_eq] at h
    rw [List.cons_append]
    unfold wpListIn
    rcases gd_out h with ⟨hw, h⟩ | ⟨hw, h⟩
    · rw [if_pos hw]
      exact Oper.wpIn_mono (fun a w h => denOps_part hK rest a w h) (denOp_wp h)
    · rw [if_neg (by simp [hw])]
      exact ⟨fun _ _ => trivial, denOps_part hK rest _ _ h⟩
theorem okr_end {P : Program} {r : Option Nat} {ops : Array Oper} {Q : Exit → Act → World → Prop} {i : Nat} (h : ops.toList.drop i = []) : OKR P r ops (Q .normal) i Q := by
  intro a w hq
  rw [h]
  exact hq
def okC (P : Program) (r : Option Nat) : Cut → Code → (Exit → Act → World → Prop) → Prop
  | .none, _, _ => True
  | .seq (some J) x _, .seq c d, Q => okC P r x c (Exit.then J Q) ∧ OKJ P r J d Q
  | .seq none x y, .seq c d, Q => okC P r x c (Exit.then (denC P r y d Q) Q) ∧ okC P r y d Q
  | .cond x y, .cond _ c d, Q => okC P r x c Q ∧ okC P r y d Q
  | .block x, .block id c, Q => okC P r x c (Exit.inBlock id Q)
  | .scope x, .scope c, Q => okC P r x c (Exit.noGoto Q)
  | .reg i J, .region _ ops _, Q => OKR P r ops J i Q
  | .at J, c, Q => OKJ P r J c Q
  | _, _, _ => True
theorem then_mono {P : Program} {r : Option Nat} {Q : Exit → Act → World → Prop} {J K : Act → World → Prop} {c : Code} {a : Act} {w : World} (h : c.wpIn (Wd r) 0 P (Exit.then J Q) a w) (hj : ∀ a w, J a w → K a w) : c.wpIn (Wd r) 0 P (Exit.then K Q) a w := by
  refine wpIn_mono h ?_
  intro e a' w' he
  cases e with
  | normal => exact hj _ _ he
  | exit _ => exact he
  | goto _ => exact he
  | ret => exact he
  | panic _ => exact he
  | outgrown => exact he
theorem denC_wp {P : Program} {r : Option Nat} (hm : P.follows .mixedOrders = true) : ∀ (t : Cut) (c : Code) (Q : Exit → Act → World → Prop) (a : Act) (w : World), okC P r t c Q → denC P r t c Q a w → c.wpIn (Wd r) 0 P Q a w
  | .none, c, Q, a, w, _, h => den_wp hm c Q a w (by simpa [denC] using h)
  | .seq (some J) x _, .seq c d, Q, a, w, ho, h => by
    unfold denC at h; unfold okC at ho
    exact wpIn_seq (then_mono (denC_wp hm x c _ a w ho.1 h) fun a w h => ho.2 a w h)
  | .seq none x y, .seq c d, Q, a, w, ho, h => by
    unfold denC at h; unfold okC at ho
    exact wpIn_seq (then_mono (denC_wp hm x c _ a w ho.1 h) fun a w h => denC_wp hm y d Q a w ho.2 h)
  | .cond x y, .cond v c d, Q, a, w, ho, h => by
    unfold denC at h; unfold okC at ho
    split at h
    · rename_i t ht
      cases t with
      | true => exact wpIn_cond_true ht (denC_wp hm x c Q a w ho.1 h)
      | false => exact wpIn_cond_false ht (denC_wp hm y d Q a w ho.2 h)
    · exact h.elim
  | .block x, .block id c, Q, a, w, ho, h => by
    unfold denC at h; unfold okC at ho
    exact wpIn_block (denC_wp hm x c _ a w ho h)
  | .scope x, .scope c, Q, a, w, ho, h => by
    unfold denC at h; unfold okC at ho
    exact wpIn_scope (denC_wp hm x c _ a w ho h)
  | .reg i J, .region _ ops false, Q, a, w, ho, h => by
    unfold denC at h; unfold okC at ho
    have := denOps_part ho _ _ _ h
    rw [List.take_append_drop] at this
    exact wpIn_region_list this
  | .reg i J, .region _ ops true, Q, a, w, ho, h => h.elim
  | .at J, c, Q, a, w, ho, h => by
    cases c <;> exact ho a w h
  | .seq (some _) _ _, .skip, _, _, _, _, h | .seq (some _) _ _, .region _ _ _, _, _, _, _, h | .seq (some _) _ _, .cond _ _ _, _, _, _, _, h | .seq (some _) _ _, .block _ _, _, _, _, _, h | .seq (some _) _ _, .loop _, _, _, _, _, h
  | .seq (some _) _ _, .rangeFunc _ _ _ _, _, _, _, _, h | .seq (some _) _ _, .exit _, _, _, _, _, h | .seq (some _) _ _, .ret, _, _, _, _, h | .seq (some _) _ _, .scope _, _, _, _, _, h | .seq (some _) _ _, .label _, _, _, _, _, h
  | .seq (some _) _ _, .goto _, _, _, _, _, h | .seq (some _) _ _, .refuse _, _, _, _, _, h => h.elim
  | .seq none _ _, .skip, _, _, _, _, h | .seq none _ _, .region _ _ _, _, _, _, _, h | .seq none _ _, .cond _ _ _, _, _, _, _, h | .seq none _ _, .block _ _, _, _, _, _, h | .seq none _ _, .loop _, _, _, _, _, h
  | .seq none _ _, .rangeFunc _ _ _ _, _, _, _, _, h | .seq none _ _, .exit _, _, _, _, _, h | .seq none _ _, .ret, _, _, _, _, h | .seq none _ _, .scope _, _, _, _, _, h | .seq none _ _, .label _, _, _, _, _, h
  | .seq none _ _, .goto _, _, _, _, _, h | .seq none _ _, .refuse _, _, _, _, _, h => h.elim
  | .cond _ _, .skip, _, _, _, _, h | .cond _ _, .region _ _ _, _, _, _, _, h | .cond _ _, .seq _ _, _, _, _, _, h | .cond _ _, .block _ _, _, _, _, _, h | .cond _ _, .loop _, _, _, _, _, h
  | .cond _ _, .rangeFunc _ _ _ _, _, _, _, _, h | .cond _ _, .exit _, _, _, _, _, h | .cond _ _, .ret, _, _, _, _, h | .cond _ _, .scope _, _, _, _, _, h | .cond _ _, .label _, _, _, _, _, h
  | .cond _ _, .goto _, _, _, _, _, h | .cond _ _, .refuse _, _, _, _, _, h => h.elim
  | .block _, .skip, _, _, _, _, h | .block _, .region _ _ _, _, _, _, _, h | .block _, .seq _ _, _, _, _, _, h | .block _, .cond _ _ _, _, _, _, _, h | .block _, .loop _, _, _, _, _, h
  | .block _, .rangeFunc _ _ _ _, _, _, _, _, h | .block _, .exit _, _, _, _, _, h | .block _, .ret, _, _, _, _, h | .block _, .scope _, _, _, _, _, h | .block _, .label _, _, _, _, _, h
  | .block _, .goto _, _, _, _, _, h | .block _, .refuse _, _, _, _, _, h => h.elim
  | .reg _ _, .skip, _, _, _, _, h | .reg _ _, .scope _, _, _, _, _, h | .reg _ _, .cond _ _ _, _, _, _, _, h | .reg _ _, .seq _ _, _, _, _, _, h | .reg _ _, .loop _, _, _, _, _, h | .reg _ _, .block _ _, _, _, _, _, h
  | .reg _ _, .rangeFunc _ _ _ _, _, _, _, _, h | .reg _ _, .exit _, _, _, _, _, h | .reg _ _, .ret, _, _, _, _, h | .reg _ _, .label _, _, _, _, _, h
  | .reg _ _, .goto _, _, _, _, _, h | .reg _ _, .refuse _, _, _, _, _, h => h.elim
  | .scope _, .skip, _, _, _, _, h | .scope _, .region _ _ _, _, _, _, _, h | .scope _, .seq _ _, _, _, _, _, h | .scope _, .cond _ _ _, _, _, _, _, h | .scope _, .loop _, _, _, _, _, h | .scope _, .block _ _, _, _, _, _, h
  | .scope _, .rangeFunc _ _ _ _, _, _, _, _, h | .scope _, .exit _, _, _, _, _, h | .scope _, .ret, _, _, _, _, h | .scope _, .label _, _, _, _, _, h
  | .scope _, .goto _, _, _, _, _, h | .scope _, .refuse _, _, _, _, _, h => h.elim

/-! ### Frames: 'ix' names the live slots by what is left behind them (n - 1 - slot), falling -/
def FR (D : Nat → Value) : Nat → List Nat → List Value → List Value
  | 0, _, _ => []
  | n + 1, [], vs => D n :: FR D n [] vs
  | n + 1, i :: is, vs => match Nat.beq n i with
    | true => (match vs with | v :: us => v :: FR D n is us | [] => D n :: FR D n is [])
    | false => D n :: FR D n (i :: is) vs
def pickK : Nat → List Nat → List Value → (List Value → Prop) → Prop
  | 0, _, l, K => (match l with | [] => K [] | _ :: _ => False)
  | n + 1, ix, l, K => match l with
    | [] => False
    | x :: xs => match ix with
      | [] => pickK n [] xs K
      | i :: is => match Nat.beq n i with
        | true => pickK n is xs fun vs => K (x :: vs)
        | false => pickK n (i :: is) xs K
theorem pick_out : ∀ (n : Nat) (ix : List Nat) (l : List Value) (D : Nat → Value) (K : List Value → Prop), (∀ (j : Nat) x, l[j]? = some x → D (n - 1 - j) = x) → pickK n ix l K → ∃ vs, l = FR D n ix vs ∧ K vs
  | 0, ix, [], D, K, _, h => ⟨[], by unfold FR; rfl, by simpa [pickK] using h⟩
  | 0, ix, _ :: _, D, K, _, h => by simp [pickK] at h
  | n + 1, ix, [], D, K, _, h => by simp [pickK] at h
  | n + 1, [], x :: xs, D, K, hD, h => by
    unfold pickK at h
    obtain ⟨vs, h1, h2⟩ := pick_out n [] xs D K (fun j y hy => by have := hD (j + 1) y (by simpa using hy); rwa [show n + 1 - 1 - (j + 1) = n - 1 - j by omega] at this) h
    refine ⟨vs, ?_, h2⟩
    have h0 := hD 0 x rfl
    unfold FR
    rw [← h1, ← h0]; rfl
  | n + 1, i :: is, x :: xs, D, K, hD, h => by
    have h0 := hD 0 x rfl
    have hD' : ∀ (j : Nat) y, xs[j]? = some y → D (n - 1 - j) = y := fun j y hy => by have := hD (j + 1) y (by simpa using hy); rwa [show n + 1 - 1 - (j + 1) = n - 1 - j by omega] at this
    unfold pickK at h
    simp only at h
    split at h
    · rename_i hb
      obtain ⟨vs, h1, h2⟩ := pick_out n is xs D _ hD' h
      refine ⟨x :: vs, ?_, h2⟩
      unfold FR
      rw [hb]
      simp only
      rw [← h1]
    · rename_i hb
      obtain ⟨vs, h1, h2⟩ := pick_out n (i :: is) xs D _ hD' h
      refine ⟨vs, ?_, h2⟩
      unfold FR
      rw [hb]
      simp only
      rw [← h1, ← h0]; rfl
/-- A frame seen through its live slots. -/
def PJ (n : Nat) (ix : List Nat) (F : List Value → List Deferred → World → Prop) (a : Act) (w : World) : Prop := pickK n ix a.tmps.toList fun vs => F vs a.defers w
theorem PJ_out {n : Nat} {ix : List Nat} {F : List Value → List Deferred → World → Prop} {a : Act} {w : World} (h : PJ n ix F a w) : ∃ D vs ds, a = { tmps := (FR D n ix vs).toArray, defers := ds } ∧ F vs ds w := by
  have hlen : ∀ (n : Nat) (ix : List Nat) (l : List Value) (K : List Value → Prop), pickK n ix l K → l.length = n := by
    intro n
    induction n with
    | zero => intro ix l K h; cases l <;> simp [pickK] at h ⊢
    | succ n ih =>
      intro ix l K h
      cases l with
      | nil => simp [pickK] at h
      | cons x xs =>
        unfold pickK at h
        cases ix with
        | nil => simp only at h; rw [List.length_cons, ih _ _ _ h]
        | cons i is =>
          simp only at h
          split at h <;> rw [List.length_cons, ih _ _ _ h]
  have hl := hlen _ _ _ _ h
  have hside : ∀ (j : Nat) x, a.tmps.toList[j]? = some x → (fun i => a.tmps.toList.getD (n - 1 - i) undef) (n - 1 - j) = x := by
    intro j x hx
    have hj := (List.getElem?_eq_some_iff.1 hx).1
    simp only
    rw [show n - 1 - (n - 1 - j) = j by omega, List.getD_eq_getElem?_getD, hx]
    rfl
  obtain ⟨vs, h1, h2⟩ := pick_out n ix a.tmps.toList (fun i => a.tmps.toList.getD (n - 1 - i) undef) _ hside h
  refine ⟨fun i => a.tmps.toList.getD (n - 1 - i) undef, vs, a.defers, ?_, h2⟩
  rw [← h1]
def un (vs : List Value) (k : Value → List Value → Prop) : Prop := match vs with | v :: us => k v us | [] => False
def nl (vs : List Value) (X : Prop) : Prop := match vs with | [] => X | _ :: _ => False
def dn (ds : List Deferred) (X : Prop) : Prop := match ds with | [] => X | _ :: _ => False
def asI (κ : IntKind) (v : Value) (k : Int → Prop) : Prop := match v with | .int κ' n => if κ' = κ then k n else False | _ => False
def asB (v : Value) (k : Bool → Prop) : Prop := match v with | .bool b => k b | _ => False
def asStr (v : Value) (k : ByteArray → Prop) : Prop := match v with | .string s => k s | _ => False
def asP (v : Value) (k : Option Addr → Prop) : Prop := match v with | .pointer p => k p | _ => False
def asBox (v : Value) (k : Nat → Prop) : Prop := match v with | .pointer (some ⟨q, 0, none⟩) => k q | _ => False
def asS (v : Value) (k : Sl → Prop) : Prop := match v with | .slice p n c => k (p, n, c) | _ => False
def asM (v : Value) (k : Option Nat → Prop) : Prop := match v with | .map m => k m | _ => False
def asG (v : Value) (k : List Value → Prop) : Prop := match v with | .agg cs => k cs.toList | _ => False
def asA (v : Value) (k : Array Value → Prop) : Prop := match v with | .agg cs => k cs | _ => False
def asT (v : Value) (k : List Value → Prop) : Prop := match v with | .tuple cs => k cs.toList | _ => False
theorem un_out {vs : List Value} {k : Value → List Value → Prop} (h : un vs k) : ∃ v us, vs = v :: us ∧ k v us := by cases vs with | nil => exact h.elim | cons v us => exact ⟨v, us, rfl, h⟩
theorem nl_out {vs : List Value} {X : Prop} (h : nl vs X) : vs = [] ∧ X := by cases vs with | nil => exact ⟨rfl, h⟩ | cons v us => exact h.elim
theorem dn_out {ds : List Deferred} {X : Prop} (h : dn ds X) : ds = [] ∧ X := by cases ds with | nil => exact ⟨rfl, h⟩ | cons v us => exact h.elim
theorem asI_out {κ : IntKind} {v : Value} {k : Int → Prop} (h : asI κ v k) : ∃ n, v = .int κ n ∧ k n := by
  unfold asI at h
  split at h
  · split at h
    · rename_i n e; subst e; exact ⟨n, rfl, h⟩
    · exact h.elim
  · exact h.elim
theorem asB_out {v : Value} {k : Bool → Prop} (h : asB v k) : ∃ n, v = .bool n ∧ k n := by unfold asB at h; split at h <;> first | exact ⟨_, rfl, h⟩ | exact h.elim
theorem asStr_out {v : Value} {k : ByteArray → Prop} (h : asStr v k) : ∃ n, v = .string n ∧ k n := by unfold asStr at h; split at h <;> first | exact ⟨_, rfl, h⟩ | exact h.elim
theorem asP_out {v : Value} {k : Option Addr → Prop} (h : asP v k) : ∃ n, v = .pointer n ∧ k n := by unfold asP at h; split at h <;> first | exact ⟨_, rfl, h⟩ | exact h.elim
theorem asBox_out {v : Value} {k : Nat → Prop} (h : asBox v k) : ∃ n, v = .pointer (some ⟨n, 0, none⟩) ∧ k n := by unfold asBox at h; split at h <;> first | exact ⟨_, rfl, h⟩ | exact h.elim
theorem asS_out {v : Value} {k : Sl → Prop} (h : asS v k) : ∃ n, v = slv n ∧ k n := by unfold asS at h; split at h <;> first | exact ⟨(_, _, _), rfl, h⟩ | exact h.elim
theorem asM_out {v : Value} {k : Option Nat → Prop} (h : asM v k) : ∃ n, v = .map n ∧ k n := by unfold asM at h; split at h <;> first | exact ⟨_, rfl, h⟩ | exact h.elim
theorem asG_out {v : Value} {k : List Value → Prop} (h : asG v k) : ∃ l : List Value, v = .agg l.toArray ∧ k l := by
  unfold asG at h; split at h
  · exact ⟨_, by simp, h⟩
  · exact h.elim
theorem asA_out {v : Value} {k : Array Value → Prop} (h : asA v k) : ∃ n, v = .agg n ∧ k n := by unfold asA at h; split at h <;> first | exact ⟨_, rfl, h⟩ | exact h.elim
theorem asT_out {v : Value} {k : List Value → Prop} (h : asT v k) : ∃ l : List Value, v = .tuple l.toArray ∧ k l := by
  unfold asT at h; split at h
  · exact ⟨_, by simp, h⟩
  · exact h.elim
/-- A list with its spine worked out. -/
def spK : List Value → (List Value → Prop) → Prop
  | [], K => K []
  | x :: xs, K => spK xs fun ys => K (x :: ys)
theorem spK_eq : ∀ (l : List Value) (K : List Value → Prop), spK l K = K l
  | [], _ => rfl
  | x :: xs, K => by simp only [spK, spK_eq xs]
/-- A piece, at a frame. -/
abbrev fr (D : Nat → Value) (n : Nat) (ix : List Nat) (vs : List Value) (ds : List Deferred) : Act := { tmps := (FR D n ix vs).toArray, defers := ds }
def pc (P : Program) (r : Option Nat) (t : Cut) (c : Code) (Q : Exit → Act → World → Prop) (D : Nat → Value) (n : Nat) (ix : List Nat) (vs : List Value) (ds : List Deferred) (w : World) : Prop :=
  spK (FR D n ix vs) fun l => denC P r t c Q { tmps := l.toArray, defers := ds } w
theorem pc_wp {P : Program} {r : Option Nat} {t : Cut} {c : Code} {Q : Exit → Act → World → Prop} {D : Nat → Value} {n : Nat} {ix : List Nat} {vs : List Value} {ds : List Deferred} {w : World} (hm : P.follows .mixedOrders = true)
    (ho : okC P r t c Q) (h : pc P r t c Q D n ix vs ds w) : c.wpIn (Wd r) 0 P Q (fr D n ix vs ds) w := by
  unfold pc at h
  rw [spK_eq] at h
  exact denC_wp hm t c Q _ w ho h
theorem okr_of {P : Program} {r : Option Nat} {ops : Array Oper} {J : Act → World → Prop} {Q : Exit → Act → World → Prop} {i m : Nat} {a : List Value} {ds : List Deferred} {w : World} (hJ : OKR P r ops J (i + m) Q)
    (h : spK a fun l => denOps P ops J ((ops.toList.drop i).take m) { tmps := l.toArray, defers := ds } w) : wpListIn (Wd r) 0 P ops Q (ops.toList.drop i) { tmps := a.toArray, defers := ds } w := by
  rw [spK_eq] at h
  have := denOps_part (l2 := ops.toList.drop (i + m)) hJ _ _ _ h
  rwa [← List.drop_drop, List.take_append_drop] at this
theorem round_ofP {P : Program} (hm : P.follows .mixedOrders = true) {r : Option Nat} {L : Nat} {rec : LoopState → Option Code → Loop} {q : Exit → World → Prop} {x y : Code} {a : Act} {w : World} {J : Act → World → Prop} (ho : OKJ P r J y (fun e _ w => q e w))
    (h : den P r x (Exit.then (fun a w => BG L rec (fun w => J a w) w) (fun _ _ _ => False)) a w) :
    x.wpIn (Wd r) 0 P (Exit.then (fun a w => BG L rec (fun w => y.wpIn (Wd r) 0 P (fun e _ w => q e w) a w) w) (fun _ _ _ => False)) a w := by
  refine then_mono (den_wp hm _ _ _ _ h) ?_
  rintro a1 w1 ⟨l1, h1, h2⟩
  exact ⟨l1, h1, fun w2 hw2 => ho _ _ (h2 w2 hw2)⟩
theorem calls_of_pc {P : Program} {f : FuncId} {fn : Func} {c : Code} {args : Array Value} {rs : List ResultVar} {k : Value → World → Prop} {w : World} {t : Cut} {D : Nat → Value} {n : Nat} {ix : List Nat} {vs : List Value} (hm : P.follows .mixedOrders = true) (hf : P.funcs[f]? = some fn) (hb : fn.body = some c)
    (hc : (callFunc f args).run P w = .ok (.enter f args) w) (ht : args ++ Array.replicate (fn.ntmps - args.size) undef = (FR D n ix vs).toArray) (hr : fn.results.toList = rs)
    (ho : okC P none t c (retQ P rs k)) (h : pc P none t c (retQ P rs k) D n ix vs [] w) : CALL P f args k w := by
  subst hr
  refine ⟨.inl ⟨hc, callsIn_wide.1 (callsIn_of_wp_marks (F := Fence.wide) (n := 0) hf hb trivial ?_)⟩⟩
  rw [ht]
  refine wpIn_mono (pc_wp hm ho h) ?_
  intro e a' w' he
  cases e with
  | normal => exact closeD_leaves _ _ he
  | ret => exact closeD_leaves _ _ he
  | exit _ => exact he.elim
  | goto _ => exact he.elim
  | panic _ => exact he.elim
  | outgrown => exact he.elim
end Go.Proofs.YtlefdgplobifiaaGreatDoor
