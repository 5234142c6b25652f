/- Regions that draw their order, and whole code: 'den' implies 'wpIn'. Entering a function. -/
import Derived.Test.YtlefdgplobifiaaGreatDoorDenD2
import Derived.Scope
namespace Go.Proofs.YtlefdgplobifiaaGreatDoor
open Go

def stillPick (P : Program) (ops : Array Oper) (listed : Array Bool) : Option Nat :=
  (Region.ready .any ops listed).find? fun i => ((ops[i]?).any fun o => stillOp P o.op) && Region.free .any ops listed i
def allR : List Nat → (Nat → Prop) → Prop
  | [], _ => True
  | [i], F => F i
  | i :: l, F => F i ∧ allR l F
theorem allR_mem {F : Nat → Prop} : ∀ {l : List Nat}, allR l F → ∀ i ∈ l, F i
  | [], _, i, h => by cases h
  | [j], h, i, hi => by simp at hi; subst hi; exact h
  | j :: k :: l, h, i, hi => by
    rcases List.mem_cons.1 hi with rfl | hi
    · exact h.1
    · exact allR_mem (l := k :: l) h.2 i hi

def denDraw (P : Program) (ops : Array Oper) (C : Option (World → Prop)) (K : Act → World → Prop) : Nat → Array Bool → Act → World → Prop
  | 0, listed, a, w => if (Region.ready .any ops listed).isEmpty then K a w else False
  | fuel + 1, listed, a, w =>
    match stillPick P ops listed with
    | some i => match ops[i]? with
      | some o => gd ops o a
          (fun a => match C with
            | none => denOp P o a (fun v w' => (putA a o.dst v fun a => denDraw P ops C K fuel (listed.setIfInBounds i true) a w')) w
            | some D => if worldlyOp o.op then exV P o.type (fun v => (∀ w', D w' → denOp P o a (fun u w'' => u = v ∧ w'' = w') w') ∧ (putA a o.dst v fun a => denDraw P ops C K fuel (listed.setIfInBounds i true) a w))
              else denOp P o a (fun v w' => (putA a o.dst v fun a => denDraw P ops C K fuel (listed.setIfInBounds i true) a w')) w)
          (fun a => (putA a o.dst undef fun a => denDraw P ops C K fuel (listed.setIfInBounds i true) a w))
      | none => False
    | none => if (Region.ready .any ops listed).isEmpty then K a w else
        allR (Region.ready .any ops listed) fun i => match ops[i]? with
          | some o => gd ops o a
              (fun a => match C with
                | none => if needC ops i then False else denOp P o a (fun v w' => (putA a o.dst v fun a => denDraw P ops C K fuel (listed.setIfInBounds i true) a w')) w
                | some D => denOp P o a (fun v w' => if needC ops i then D w' ∧ (putA a o.dst v fun a => denDraw P ops C K fuel (listed.setIfInBounds i true) a w') else (putA a o.dst v fun a => denDraw P ops C K fuel (listed.setIfInBounds i true) a w')) w)
              (fun a => (putA a o.dst undef fun a => denDraw P ops C K fuel (listed.setIfInBounds i true) a w))
          | none => False

/-- Is each operation that reads memory ahead of each that is not still? -/
def sealedB (P : Program) (ops : Array Oper) : Bool := (List.range ops.size).all fun j => ((ops[j]?).any fun o => stillOp P o.op) || !needC ops j
def noSelB (ops : Array Oper) : Bool := ops.all fun o => match o.op with | .select _ _ | .defer _ => false | _ => true
def denReg (P : Program) (ops : Array Oper) (K : Act → World → Prop) (a : Act) (w : World) : Prop :=
  if noSelB ops then
    if sealedB P ops then denDraw P ops none K ops.size (Array.replicate ops.size false) a w.drew
    else ∃ C : World → Prop, C w.drew ∧ denDraw P ops (some C) K ops.size (Array.replicate ops.size false) a w.drew
  else False

section
variable {P : Program} {r : Option Nat} {Q : Exit → Act → World → Prop} {w : World} {a : Act}

theorem noSel_spec {ops : Array Oper} (h : noSelB ops = true) (j : Nat) (o : Oper) (ho : ops[j]? = some o) : (∀ cs b, o.op ≠ .select cs b) ∧ ∀ c, o.op ≠ .defer c := by
  have := Array.all_eq_true_iff_forall_mem.1 h o (Array.mem_of_getElem? ho)
  constructor
  · intro cs b e; rw [e] at this; cases this
  · intro c e; rw [e] at this; cases this
theorem stillPick_spec {ops : Array Oper} {listed : Array Bool} {i : Nat} (h : stillPick P ops listed = some i) : i ∈ Region.ready .any ops listed ∧ (∀ o, ops[i]? = some o → stillOp P o.op = true) ∧ Region.free .any ops listed i = true := by
  have h1 := List.mem_of_find?_eq_some h
  have h2 := List.find?_some h
  simp only [Bool.and_eq_true] at h2
  exact ⟨h1, fun o ho => by simpa [ho] using h2.1, h2.2⟩
theorem pend_need {ops : Array Oper} {listed : Array Bool} {i : Nat} (hc : closedL ops listed) (hi : i ∈ Region.ready .any ops listed) (hp : pend ops (listed.setIfInBounds i true)) : needC ops i = true := by
  obtain ⟨i', h1, h2, h3⟩ := hp
  have hne : i' ≠ i := by
    rintro rfl
    obtain ⟨hlt, _, _⟩ := ready_spec' hc hi
    rw [← hc.1] at hlt
    simp [hlt] at h3
  have h4 : listed.getD i' false = false := by simpa [Array.getElem?_setIfInBounds, Ne.symm hne] using h3
  exact need_of hc hi h2 h4 h1 hne

theorem denDraw_any {ops : Array Oper} (hns : noSelB ops = true) (hQ : ∀ c a w, ¬ Q (.panic c) a w) (Co : Option (World → Prop)) (C : World → Prop)
    (hC : Co = some C ∨ (Co = none ∧ ∃ w0, C = fun x => x = w0)) : ∀ (fuel : Nat) (listed : Array Bool) (a : Act) (w : World), closedL ops listed → (pend ops listed → C w) →
      denDraw P ops Co (Q .normal) fuel listed a w → wpAnyC r P ops Q C fuel listed a w
  | 0, listed, a, w, _, _, h => by
    unfold denDraw at h
    split at h
    · rename_i he; exact ⟨by simpa using he, h⟩
    · exact h.elim
  | fuel + 1, listed, a, w, hcl, hpc, h => by
    unfold denDraw at h
    simp only [putA_eq] at h
    split at h
    · rename_i i hpick
      obtain ⟨hr, hst, hfree⟩ := stillPick_spec hpick
      split at h
      case h_2 => exact h.elim
      rename_i o ho
      have hst := hst o ho
      obtain ⟨hil, hiun, _⟩ := ready_spec' hcl hr
      have hinv : pend ops (listed.setIfInBounds i true) → C w := fun hp => hpc (pend_mono hp)
      have hfr := fun j oj => Region.free_spec (md := .any) ho hfree j oj
      have hall : ∀ (v : Value) (D : World → Prop), (∀ w, D w) ∨ (D = C ∧ worldlyAt ops i) → D w → YldU P ops D o v a → denDraw P ops Co (Q .normal) fuel (listed.setIfInBounds i true) (a.put o.dst v) w → wpAnyC r P ops Q C (fuel + 1) listed a w :=
        fun v D hD hDw hy hh => wpAnyC_first ho (noSel_spec hns) hQ hD fuel listed a w hcl hDw hfr hr hy (denDraw_any hns hQ Co C hC fuel _ _ _ (closedL_set hcl hr) hinv hh)
      rcases gd_out h with ⟨hw, h⟩ | ⟨hw, h⟩
      · have hpure : worldlyOp o.op = false → denOp P o a (fun v w' => denDraw P ops Co (Q .normal) fuel (listed.setIfInBounds i true) (a.put o.dst v) w') w → wpAnyC r P ops Q C (fuel + 1) listed a w := fun hwo hd => by
          obtain ⟨v, h1, h2⟩ := denOp_pure hst hwo hd
          exact hall v (fun _ => True) (.inl fun _ => trivial) trivial (.inl ⟨hw, (noSel_spec hns i o ho).2, fun w' _ => denOp_up (h1 w')⟩) h2
        cases hwo : worldlyOp o.op with
        | false =>
          rcases hC with rfl | ⟨rfl, _⟩
          · simp only [hwo, Bool.false_eq_true, if_false] at h
            exact hpure hwo h
          · exact hpure hwo h
        | true =>
          have hpend : pend ops listed := ⟨i, hil, ⟨o, ho, hwo⟩, hiun⟩
          rcases hC with rfl | ⟨rfl, w0, rfl⟩
          · simp only [hwo, if_true] at h
            obtain ⟨v, h1, h2⟩ := exV_out h
            exact hall v C (.inr ⟨rfl, o, ho, hwo⟩) (hpc hpend) (.inl ⟨hw, (noSel_spec hns i o ho).2, fun w' hw' => denOp_up (h1 w' hw')⟩) h2
          · obtain ⟨v, h1, h2⟩ := denOp_pin hwo h
            have hw0 : w = w0 := hpc hpend
            subst hw0
            exact hall v _ (.inr ⟨rfl, o, ho, hwo⟩) rfl (.inl ⟨hw, (noSel_spec hns i o ho).2, fun w' hw' => by subst hw'; exact denOp_up h1⟩) h2
      · exact hall undef (fun _ => True) (.inl fun _ => trivial) trivial (.inr ⟨hw, rfl⟩) h
    · split at h
      · rename_i he
        have he : Region.ready .any ops listed = [] := by simpa using he
        exact ⟨fun _ => h, by rw [he]; intro i hi; cases hi⟩
      · rename_i hne
        refine ⟨fun he => by simp [he] at hne, fun i hi => ?_⟩
        have h := allR_mem h i hi
        obtain ⟨hil, hiun, o, ho, _⟩ := ready_spec' hcl hi
        simp only [ho] at h
        unfold wpOpIn
        simp only [ho]
        rcases gd_out h with ⟨hw, h⟩ | ⟨hw, h⟩
        · rw [if_pos hw]
          rcases hC with rfl | ⟨rfl, w0, rfl⟩
          · have hcopy : Oper.wpIn (Wd r) 0 P o a w (fun a' w' => (needC ops i = true → C w') ∧ denDraw P ops (some C) (Q .normal) fuel (listed.setIfInBounds i true) a' w') Q := by
              refine denOp_wp (next := fun a' w' => (needC ops i = true → C w') ∧ denDraw P ops (some C) (Q .normal) fuel (listed.setIfInBounds i true) a' w') ?_
              cases hn : needC ops i with
              | true => simpa only [hn, if_true, true_implies] using h
              | false => simpa [hn] using h
            refine Oper.wpIn_mono ?_ hcopy
            rintro a' w' ⟨h1, h2⟩
            exact ⟨fun hn _ => h1 hn, denDraw_any hns hQ _ C (.inl rfl) fuel _ _ _ (closedL_set hcl hi) (fun hp => h1 (pend_need hcl hi hp)) h2⟩
          · cases hn : needC ops i with
            | true => simp [hn] at h
            | false =>
              simp only [hn, Bool.false_eq_true, if_false] at h
              refine Oper.wpIn_mono ?_ (denOp_wp h)
              intro a' w' h2
              exact ⟨(fun hn' => by cases hn'), denDraw_any hns hQ _ _ (.inr ⟨rfl, w0, rfl⟩) fuel _ _ _ (closedL_set hcl hi) (fun hp => by rw [pend_need hcl hi hp] at hn; cases hn) h2⟩
        · rw [if_neg (by simp [hw])]
          refine ⟨fun _ _ => trivial, fun _ h => h, denDraw_any hns hQ Co C hC fuel _ _ _ (closedL_set hcl hi) (fun hp => hpc (pend_mono hp)) h⟩

theorem denReg_wp {id : Nat} {ops : Array Oper} (hm : P.follows .mixedOrders = true) (h : denReg P ops (Q .normal) a w) : (Code.region id ops true).wpIn (Wd r) 0 P Q a w := by
  unfold denReg at h
  split at h
  case isFalse => exact h.elim
  rename_i hns
  have hcl : closedL ops (Array.replicate ops.size false) := ⟨by simp, fun j oj hj hl => by
    have := (Array.getElem?_eq_some_iff.1 hj).1
    simp [this] at hl⟩
  have fin : ∀ (Co : Option (World → Prop)) (C : World → Prop), (Co = some C ∨ (Co = none ∧ ∃ w0, C = fun x => x = w0)) → C w.drew → denDraw P ops Co (Q .normal) ops.size (Array.replicate ops.size false) a w.drew → (Code.region id ops true).wpIn (Wd r) 0 P Q a w := by
    intro Co C hC hCw hd
    have key : (Code.region id ops true).wpIn (Wd r) 0 P (fun e a w => match e with | .normal => Q .normal a w | _ => False) a w := by
      refine wpIn_region_any hm (wpAnyC_in (C := C) _ _ _ _ ?_)
      exact denDraw_any (Q := fun e a w => match e with | .normal => Q .normal a w | _ => False) hns (fun c a w h => h) Co C hC _ _ _ _ hcl (fun _ => hCw) hd
    exact wpIn_mono key (fun e a w h => by cases e <;> first | exact h | exact h.elim)
  split at h
  · exact fin none (fun x => x = w.drew) (.inr ⟨rfl, _, rfl⟩) rfl h
  · obtain ⟨C, hC, h⟩ := h
    exact fin (some C) C (.inl rfl) hC h
end

/-! ### Code -/
/-- A scope through which the run goes without a goto. -/
theorem wpIn_scope {P : Program} {F : Fence} {n : Nat} {Q : Exit → Act → World → Prop} {a : Act} {w : World} {c : Code} (h : c.wpIn F n P (Exit.noGoto Q) a w) : (Code.scope c).wpIn F n P Q a w := by
  intro b k cs hro hb hr
  have h0 : (lone (b.atR a (.code (.scope c) :: k)) cs w).fenced P F := fenced_calm hb hr rfl
  have s1 : step P (lone (b.atR a (.code (.scope c) :: k)) cs w) = .next (lone (b.atR a (.code c :: .inScope c :: k)) cs w) := step_lone_go (by simp [stepG, stepG.exec, Frame.atR])
  obtain ⟨e, a₁, w₁, hq, harr⟩ := h b (.inScope c :: k) cs hro hb hr
  have s2 : step P (lone (b.atR a₁ (.inScope c :: k)) cs w₁) = .next (lone (b.atR a₁ k) cs w₁) := step_lone_go (by simp [stepG, stepG.exec, Frame.atR])
  cases e with
  | normal => exact ⟨.normal, a₁, w₁, hq, .head h0 s1 (StepsIn.trans harr (.one (fenced_calm hb hr rfl) s2))⟩
  | exit id =>
    have hx : exitTo id (.inScope c :: k) = exitTo id k := by simp [exitTo]
    exact ⟨.exit id, a₁, w₁, hq, fun k' hk => .head h0 s1 (harr.1 k' (by rw [hx]; exact hk)),
      fun hr' hk => let ⟨k₁, h1, h2⟩ := harr.2 hr' (by rw [hx]; exact hk); ⟨k₁, h1, .head h0 s1 h2⟩⟩
  | goto l => exact hq.elim
  | ret => exact ⟨_, a₁, w₁, hq, .of_steps (.one h0 s1) harr⟩
  | panic ch => exact ⟨_, a₁, w₁, hq, .of_steps (.one h0 s1) harr⟩
  | outgrown => exact ⟨_, a₁, w₁, hq, .of_steps (.one h0 s1) harr⟩
def den (P : Program) (r : Option Nat) : Code → (Exit → Act → World → Prop) → Act → World → Prop
  | .skip, Q, a, w => Q .normal a w
  | .region _ ops draw, Q, a, w => if draw then denReg P ops (Q .normal) a w else denOps P ops (Q .normal) ops.toList a w
  | .seq x y, Q, a, w => den P r x (Exit.then (den P r y Q) Q) a w
  | .cond c x y, Q, a, w => match a.eval c with | .bool t => brK t (den P r x Q a w) (den P r y Q a w) | _ => False
  | .block id x, Q, a, w => den P r x (Exit.inBlock id Q) a w
  | .loop x, Q, a, w => (Code.loop x).wpIn (Wd r) 0 P Q a w
  | .rangeFunc g ps x y, Q, a, w => (Code.rangeFunc g ps x y).wpIn (Wd r) 0 P Q a w
  | .exit id, Q, a, w => Q (.exit id) a w
  | .ret, Q, a, w => Q .ret a w
  | .label _, Q, a, w => Q .normal a w
  | .scope x, Q, a, w => den P r x (Exit.noGoto Q) a w
  | _, _, _, _ => False

theorem den_wp {P : Program} {r : Option Nat} (hm : P.follows .mixedOrders = true) : ∀ (c : Code) (Q : Exit → Act → World → Prop) (a : Act) (w : World), den P r c Q a w → c.wpIn (Wd r) 0 P Q a w
  | .skip, _, _, _, h => wpIn_skip h
  | .region _ ops true, _, _, _, h => denReg_wp hm h
  | .region _ ops false, _, _, _, h => wpIn_region_list (denOps_wp _ _ _ h)
  | .seq x y, Q, a, w, h => by
    refine wpIn_seq (wpIn_mono (den_wp hm x _ a w h) ?_)
    intro e a' w' he
    cases e with
    | normal => exact den_wp hm y Q a' w' he
    | exit _ => exact he
    | goto _ => exact he
    | ret => exact he
    | panic _ => exact he
    | outgrown => exact he
  | .cond c x y, Q, a, w, h => by
    unfold den at h
    split at h
    · rename_i t ht
      cases t with
      | true => exact wpIn_cond_true ht (den_wp hm x Q a w h)
      | false => exact wpIn_cond_false ht (den_wp hm y Q a w h)
    · exact h.elim
  | .block id x, Q, a, w, h => wpIn_block (den_wp hm x _ a w h)
  | .loop _, _, _, _, h => h
  | .rangeFunc _ _ _ _, _, _, _, h => h
  | .exit _, _, _, _, h => wpIn_exit h
  | .ret, _, _, _, h => wpIn_ret h
  | .scope x, _, _, _, h => wpIn_scope (den_wp hm x _ _ _ h)
  | .label _, _, _, _, h => wpIn_label h
  | .goto _, _, _, _, h => h.elim
  | .refuse _, _, _, _, h => h.elim

/-! ### Entering a function -/
/-- The function's deferred calls are marks of loops over functions: each of their blocks is empty, and is shut. -/
def closeD (k : World → Prop) : List Deferred → World → Prop
  | [], w => k w
  | d :: ds, w => match d.target with
    | .collected b => w.heap[b]? = some (.deferred (some [])) ∧ closeD k ds (w.putObj b (.deferred none))
    | _ => False
def resK (P : Program) (tmps : Array Value) (k : Value → World → Prop) : List ResultVar → List Value → World → Prop
  | [], acc, w => k (match acc with | [v] => v | _ => .tuple acc.toArray) w
  | .tmp t :: rs, acc, w => nthK tmps.toList t fun v => resK P tmps k rs (acc ++ [v]) w
  | .cell c t :: rs, acc, w => match tmps.getD c undef with
    | .pointer (some p) => ldV P t p (fun v w => resK P tmps k rs (acc ++ [v]) w) w
    | _ => False
def retQ (P : Program) (rs : List ResultVar) (k : Value → World → Prop) : Exit → Act → World → Prop
  | .normal, a, w => closeD (fun w => resK P a.tmps k rs [] w) a.defers w
  | .ret, a, w => closeD (fun w => resK P a.tmps k rs [] w) a.defers w
  | _, _, _ => False

section
variable {P : Program} {w : World}

def resF (tmps : Array Value) : ResultVar → Sem Value
  | .tmp t => pure (tmps.getD t undef)
  | .cell a t => do loadVar t (← asAddr (tmps.getD a undef))
theorem results_eq (fn : Func) (tmps : Array Value) : results fn tmps = (do let vs ← fn.results.mapM (resF tmps); pure (if h : vs.size = 1 then vs[0] else .tuple vs)) := by
  have : (fun x : ResultVar => match x with | .tmp t => (pure (tmps.getD t undef) : Sem Value) | .cell a t => do loadVar t (← asAddr (tmps.getD a undef))) = resF tmps := by
    funext x; cases x <;> rfl
  rw [← this]
  rfl
theorem resK_run {tmps : Array Value} {k : Value → World → Prop} : ∀ (rs : List ResultVar) (acc : List Value) (w : World), resK P tmps k rs acc w →
    ∃ vs : List Value, (rs.mapM (m := Sem) (resF tmps)).run P w = .ok vs w ∧ k (match acc ++ vs with | [v] => v | _ => .tuple (acc ++ vs).toArray) w
  | [], acc, w, h => ⟨[], by simp, by simpa [resK] using h⟩
  | .tmp t :: rs, acc, w, h => by
    unfold resK at h
    rw [nthK_eq, show tmps.toList.getD t undef = tmps.getD t undef by simp] at h
    obtain ⟨vs, h1, h2⟩ := resK_run rs _ w h
    refine ⟨tmps.getD t undef :: vs, ?_, by simpa using h2⟩
    rw [List.mapM_cons, Sem.run_bind]
    simp only [resF, Sem.run_pure, Result.andThen_ok, Sem.run_bind, h1]
  | .cell c t :: rs, acc, w, h => by
    unfold resK at h
    split at h
    case h_2 => exact h.elim
    rename_i p hp
    obtain ⟨v, h3, h⟩ := ldV_run h
    obtain ⟨vs, h1, h2⟩ := resK_run rs _ w h
    refine ⟨v :: vs, ?_, by simpa using h2⟩
    have h4 : (resF tmps (.cell c t)).run P w = .ok v w := by
      have h5 : (asAddr (tmps.getD c undef)).run P w = .ok p w := by rw [hp]; rfl
      simp only [resF, Sem.run_bind, h5, Result.andThen_ok, h3]
    rw [List.mapM_cons, Sem.run_bind, h4]
    simp only [Result.andThen_ok, Sem.run_bind, h1, Sem.run_pure]

theorem results_run {fn : Func} {tmps : Array Value} {k : Value → World → Prop} (h : resK P tmps k fn.results.toList [] w) : ∃ v, (results fn tmps).run P w = .ok v w ∧ k v w := by
  obtain ⟨vs, h1, h2⟩ := resK_run _ _ _ h
  simp only [List.nil_append] at h2
  refine ⟨_, ?_, h2⟩
  rw [results_eq]
  have h3 : (fn.results.mapM (m := Sem) (resF tmps)).run P w = .ok vs.toArray w := by
    conv => lhs; rw [← Array.toArray_toList (xs := fn.results), List.mapM_toArray]
    simp only [Sem.run_map, h1, Result.andThen_ok]
  rw [Sem.run_bind, h3]
  simp only [Result.andThen_ok, Sem.run_pure]
  match vs with
  | [] => rfl
  | [v] => rfl
  | _ :: _ :: _ => rfl

theorem closeD_leaves {fn : Func} {tmps : Array Value} {k : Value → World → Prop} : ∀ (ds : List Deferred) (w : World), closeD (fun w => resK P tmps k fn.results.toList [] w) ds w →
    LeavesInM Fence.wide 0 P fn tmps (fun e w' => ∃ v, e = .returned v ∧ k v w') ds .returning w
  | [], w, h => by
    obtain ⟨v, h1, h2⟩ := results_run h
    exact ⟨v, h1, v, rfl, h2⟩
  | d :: ds, w, h => by
    unfold closeD at h
    split at h
    · rename_i b hb
      exact ⟨by simp, .inl ⟨b, _, hb, run_takeDeferred h.1, closeD_leaves ds _ h.2⟩⟩
    · exact h.elim

/-- A function's contract, from 'den' of its body. -/
theorem calls_of_den {f : FuncId} {fn : Func} {c : Code} {args : Array Value} {k : Value → World → Prop} (hm : P.follows .mixedOrders = true) (hf : P.funcs[f]? = some fn) (hb : fn.body = some c)
    (hc : (callFunc f args).run P w = .ok (.enter f args) w)
    (h : den P none c (retQ P fn.results.toList k) { tmps := args ++ Array.replicate (fn.ntmps - args.size) undef, defers := [] } w) : CALL P f args k w := by
  refine ⟨.inl ⟨hc, callsIn_wide.1 (callsIn_of_wp_marks (F := Fence.wide) (n := 0) hf hb trivial ?_)⟩⟩
  refine wpIn_mono (den_wp (r := none) hm c _ _ _ h) ?_
  intro e a' w' he
  cases e with
  | normal => exact closeD_leaves _ _ he
  | ret => exact closeD_leaves _ _ he
  | exit _ => exact he.elim
  | goto _ => exact he.elim
  | panic _ => exact he.elim
  | outgrown => exact he.elim
end
end Go.Proofs.YtlefdgplobifiaaGreatDoor
