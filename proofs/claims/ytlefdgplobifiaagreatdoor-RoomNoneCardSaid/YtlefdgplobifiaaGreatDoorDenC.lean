/- 'den' over whole code, and that it implies the kit's 'wpIn' at the wide fence, in a round or out of one. -/
import Derived.Test.YtlefdgplobifiaaGreatDoorDenS3
namespace Go.Proofs.YtlefdgplobifiaaGreatDoor
open Go

/-- The wide fence, in round r. -/
def Wd (r : Option Nat) : Fence := { Fence.wide with round := r }
theorem Wd_none : Wd none = Fence.wide := rfl

section
variable {P : Program} {r : Option Nat} {Q : Exit → Act → World → Prop} {w : World} {a : Act}

theorem calls_wd {f : FuncId} {args : Array Value} {R : Ending → World → Prop} (h : Calls P f args w R) : CallsIn (Wd r) 0 P f args w R := callsIn_wide.2 h
theorem round_wd {l : Nat} {f : FuncId} {tmps : Array Value} {x y : Code} {R : Ending → World → Prop} (h : RoundIn Fence.wide 0 P l f tmps x y w R) : RoundIn (Wd r) 0 P l f tmps x y w R := h

/-- An operation other than 'defer': what it gives, and behind it 'next'. -/
theorem up_upon {o : Oper} {next : Act → World → Prop} {res : Result Next} (h : Up P (fun v w' => next (a.put o.dst v) w') res) : Oper.uponIn (Wd r) 0 P o a next Q res := by
  unfold Up at h
  split at h
  · exact h
  · exact h
  · refine ⟨(fun h => by cases h), calls_wd (h.mono ?_)⟩
    rintro e w'' ⟨v, rfl, hv⟩
    exact hv
  · refine ⟨(fun h => by cases h), round_wd (h.mono ?_)⟩
    rintro e w'' ⟨v, rfl, hv⟩
    exact hv
  · exact h.elim

theorem denOp_noDefer {o : Oper} {ac : Act} {k : Value → World → Prop} (h : denOp P o ac k w) : ∀ c, o.op ≠ .defer c := by
  intro c hc
  unfold denOp at h
  rw [hc] at h
  exact h

theorem denOp_wp {o : Oper} {next : Act → World → Prop} (h : denOp P o a (fun v w' => next (a.put o.dst v) w') w) : o.wpIn (Wd r) 0 P a w next Q := by
  refine ⟨fun _ _ => trivial, ?_⟩
  rw [Oper.semAt_eq _ _ _ (denOp_noDefer h)]
  exact up_upon (denOp_up h)

/-! ### Operations in the text's order -/
/-- An operation's guard: whether it is wanted is read off a temporary. -/
@[reducible] def gd (ops : Array Oper) (o : Oper) (a : Act) (run skip : Act → Prop) : Prop :=
  match o.guard with
  | none => run a
  | some (j, b) => match (ops[j]?).bind (·.dst) with
    | some d => match a.tmps[d]? with
      | some (.bool c) => brK c (putA a (some d) (.bool true) fun a => if b = true then run a else skip a) (putA a (some d) (.bool false) fun a => if b = false then run a else skip a)
      | _ => skip a
    | none => False
def denOps (P : Program) (ops : Array Oper) (K : Act → World → Prop) : List Oper → Act → World → Prop
  | [], a, w => K a w
  | o :: rest, a, w => gd ops o a (fun a => denOp P o a (fun v w' => putA a o.dst v fun a => denOps P ops K rest a w') w) (fun a => putA a o.dst undef fun a => denOps P ops K rest a w)

theorem put_same {d : Nat} {v : Value} (h : a.tmps[d]? = some v) : a.put (some d) v = a := by
  unfold Act.put
  simp only
  congr 1
  apply Array.ext_getElem?
  intro i
  by_cases hi : d = i
  · subst hi
    have := (Array.getElem?_eq_some_iff.1 h).1
    simp [this, (Array.getElem?_eq_some_iff.1 h).2]
  · simp [hi]

theorem yielded_of {ops : Array Oper} {j d : Nat} {tmps : Array Value} (hd : (ops[j]?).bind (·.dst) = some d) : yielded ops tmps j = match tmps[d]? with | some (.bool b) => some b | _ => none := by
  unfold yielded; rw [hd]; rfl

theorem gd_out {ops : Array Oper} {o : Oper} {run skip : Act → Prop} (h : gd ops o a run skip) : (Region.wanted o (yielded ops a.tmps) = true ∧ run a) ∨ (Region.wanted o (yielded ops a.tmps) = false ∧ skip a) := by
  unfold gd at h
  split at h
  · rename_i hg
    exact .inl ⟨by simp [Region.wanted, hg], h⟩
  · rename_i j b hg
    split at h
    case h_2 => exact h.elim
    rename_i d hd
    have hy := yielded_of (tmps := a.tmps) hd
    split at h
    · rename_i c hc
      rw [hc] at hy
      simp only at hy
      cases c with
      | true =>
        simp only [brK, putA_eq, put_same hc] at h
        by_cases hb : b = true
        · subst hb
          rw [if_pos rfl] at h
          exact .inl ⟨by simp [Region.wanted, hg, hy], h⟩
        · rw [if_neg hb] at h
          exact .inr ⟨by cases b <;> simp_all [Region.wanted], h⟩
      | false =>
        simp only [brK, putA_eq, put_same hc] at h
        by_cases hb : b = false
        · subst hb
          rw [if_pos rfl] at h
          exact .inl ⟨by simp [Region.wanted, hg, hy], h⟩
        · rw [if_neg hb] at h
          exact .inr ⟨by cases b <;> simp_all [Region.wanted], h⟩
    · rename_i hnc
      have hyn : yielded ops a.tmps j = none := by
        rw [hy]
        split
        · rename_i b' hb'; exact (hnc b' hb').elim
        · rfl
      exact .inr ⟨by simp [Region.wanted, hg, hyn], h⟩

theorem denOps_wp {ops : Array Oper} : ∀ (l : List Oper) (a : Act) (w : World), denOps P ops (Q .normal) l a w → wpListIn (Wd r) 0 P ops Q l a w
  | [], _, _, h => h
  | o :: rest, a, w, h => by
    unfold denOps at h
    simp only [putA_eq] at h
    unfold wpListIn
    rcases gd_out h with ⟨hw, h⟩ | ⟨hw, h⟩
    · rw [if_pos hw]
      exact Oper.wpIn_mono (fun a w h => denOps_wp rest a w h) (denOp_wp h)
    · rw [if_neg (by simp [hw])]
      exact ⟨fun _ _ => trivial, denOps_wp rest _ _ h⟩

/-! ### A region that draws its order -/
def stillOp (P : Program) : Op → Bool
  | .convert src dst _ => convStill P src dst
  | .move _ | .assign _ | .pick _ _ _ | .build _ _ | .load _ _ | .nilCheck _ | .binOp _ _ _ _ _ | .unOp _ _ _ | .makeFunc _ _ _ | .slice _ _ _ _ _ | .fieldAddr _ _ _ | .field _ _ _ | .indexAddr _ _ _
  | .index _ _ _ | .lookup _ _ _ _ | .extract _ _ => true
  | .call { callee := .builtin b, .. } => match b with | .len | .cap | .max | .min => true | _ => false
  | _ => false
def worldlyOp : Op → Bool
  | .load _ _ | .lookup _ _ _ _ => true
  | .call { callee := .builtin .len, .. } => true
  | _ => false


/-- What comes (by the edges) ahead of an operation, as a number's bits. -/
def maskOf (acc : List Nat) (o : Oper) : Nat := o.after.toList.foldl (fun m e => if Region.binds .any e then (m ||| 1 <<< e.on) ||| acc.getD e.on 0 else m) 0
def ancL (ops : List Oper) : List Nat := ops.foldl (fun acc o => acc ++ [maskOf acc o]) []
/-- Some operation that reads memory does not come ahead of j. -/
def needC (ops : Array Oper) (j : Nat) : Bool := (fun m => (List.range ops.size).any fun i => ((ops[i]?).any fun o => worldlyOp o.op) && i != j && !Nat.testBit m i) ((ancL ops.toList).getD j 0)
def worldlyAt (ops : Array Oper) (i : Nat) : Prop := ∃ o, ops[i]? = some o ∧ worldlyOp o.op = true
def pend (ops : Array Oper) (listed : Array Bool) : Prop := ∃ i, i < ops.size ∧ worldlyAt ops i ∧ listed.getD i false = false
def closedL (ops : Array Oper) (listed : Array Bool) : Prop := listed.size = ops.size ∧ ∀ j oj, ops[j]? = some oj → listed.getD j false = true → ∀ e ∈ oj.after, Region.binds .any e = true → listed.getD e.on false = true

theorem mask_out {acc : List Nat} {i : Nat} : ∀ (l : List Edge) (m : Nat), Nat.testBit (l.foldl (fun m e => if Region.binds .any e then (m ||| 1 <<< e.on) ||| acc.getD e.on 0 else m) m) i = true →
    Nat.testBit m i = true ∨ ∃ e ∈ l, Region.binds .any e = true ∧ (e.on = i ∨ Nat.testBit (acc.getD e.on 0) i = true)
  | [], m, h => .inl h
  | e :: l, m, h => by
    rw [List.foldl_cons] at h
    rcases mask_out l _ h with h1 | ⟨e', he, hb, h2⟩
    · by_cases hb : Region.binds .any e = true
      · rw [if_pos hb] at h1
        simp only [Nat.testBit_or, Bool.or_eq_true] at h1
        rcases h1 with (h1 | h1) | h1
        · exact .inl h1
        · refine .inr ⟨e, by simp, hb, .inl ?_⟩
          rw [Nat.testBit_shiftLeft] at h1
          simp only [Bool.and_eq_true, decide_eq_true_eq] at h1
          obtain ⟨h1, h2⟩ := h1
          rw [Nat.testBit_one_eq_true_iff_self_eq_zero] at h2
          omega
        · exact .inr ⟨e, by simp, hb, .inr h1⟩
      · rw [if_neg hb] at h1
        exact .inl h1
    · exact .inr ⟨e', by simp [he], hb, h2⟩
theorem ancL_spec {ops : Array Oper} {listed : Array Bool} (hc : closedL ops listed) : ∀ (l done : List Oper) (acc : List Nat), ops.toList = done ++ l → acc.length = done.length →
    (∀ (j i : Nat) (oj : Oper), ops[j]? = some oj → (∀ e ∈ oj.after, Region.binds .any e = true → listed.getD e.on false = true) → Nat.testBit (acc.getD j 0) i = true → listed.getD i false = true) →
    ∀ (j i : Nat) (oj : Oper), ops[j]? = some oj → (∀ e ∈ oj.after, Region.binds .any e = true → listed.getD e.on false = true) → Nat.testBit ((l.foldl (fun acc o => acc ++ [maskOf acc o]) acc).getD j 0) i = true → listed.getD i false = true
  | [], _, _, _, _, hacc => by simpa using hacc
  | o :: l, done, acc, hd, hlen, hacc => by
    rw [List.foldl_cons]
    refine ancL_spec hc l (done ++ [o]) _ (by simp [hd]) (by simp [hlen]) ?_
    intro j i oj hj hall hb
    by_cases hlt : j < acc.length
    · rw [show (acc ++ [maskOf acc o]).getD j 0 = acc.getD j 0 by simp [List.getD, List.getElem?_append_left hlt]] at hb
      exact hacc j i oj hj hall hb
    · by_cases heq : j = acc.length
      · have ho : ops[j]? = some o := by
          have : ops.toList[j]? = some o := by rw [hd, heq, hlen]; simp
          simpa using this
        have e : oj = o := Option.some.inj (hj.symm.trans ho)
        subst e
        subst heq
        rw [show (acc ++ [maskOf acc oj]).getD acc.length 0 = maskOf acc oj by simp [List.getD]] at hb
        unfold maskOf at hb
        rcases mask_out _ _ hb with h0 | ⟨e, he, hbd, h2⟩
        · simp at h0
        · have hl := hall e (by simpa using he) hbd
          rcases h2 with rfl | h2
          · exact hl
          · cases ho' : ops[e.on]? with
            | none =>
              have : e.on ≥ ops.size := by
                rcases Nat.lt_or_ge e.on ops.size with h | h
                · simp [h] at ho'
                · exact h
              have hsz := hc.1
              rw [Array.getD_eq_getD_getElem?, Array.getElem?_eq_none (by omega)] at hl
              cases hl
            | some o' => exact hacc e.on i o' ho' (hc.2 _ _ ho' hl) h2
      · have : (acc ++ [maskOf acc o]).getD j 0 = 0 := by
          rw [List.getD_eq_getElem?_getD, List.getElem?_eq_none (by simp; omega)]; rfl
        rw [this] at hb
        simp at hb
theorem ready_spec' {ops : Array Oper} {listed : Array Bool} {j : Nat} (hc : closedL ops listed) (h : j ∈ Region.ready .any ops listed) : j < ops.size ∧ listed.getD j false = false ∧ ∃ oj, ops[j]? = some oj ∧ ∀ e ∈ oj.after, Region.binds .any e = true → listed.getD e.on false = true := by
  obtain ⟨h1, oj, h2, h3⟩ := mem_ready.1 h
  have hlt : j < ops.size := (Array.getElem?_eq_some_iff.1 h2).1
  refine ⟨hlt, ?_, oj, h2, h3⟩
  have : j < listed.size := by rw [hc.1]; exact hlt
  simp [this] at h1 ⊢
  exact h1
theorem need_of {ops : Array Oper} {listed : Array Bool} {i j : Nat} (hc : closedL ops listed) (hj : j ∈ Region.ready .any ops listed) (hi : worldlyAt ops i) (hun : listed.getD i false = false) (hlt : i < ops.size) (hne : i ≠ j) : needC ops j = true := by
  obtain ⟨hjl, _, oj, hoj, hall⟩ := ready_spec' hc hj
  obtain ⟨o, ho, hw⟩ := hi
  simp only [needC, List.any_eq_true, List.mem_range, Bool.and_eq_true, Bool.not_eq_true', bne_iff_ne, ne_eq]
  refine ⟨i, hlt, ⟨by simp [ho, hw], hne⟩, ?_⟩
  cases h : Nat.testBit ((ancL ops.toList).getD j 0) i with
  | false => rfl
  | true =>
    have := ancL_spec hc ops.toList [] [] rfl rfl (by intro j i oj _ _ h; simp at h) j i oj hoj hall h
    rw [this] at hun
    cases hun
theorem closedL_set {ops : Array Oper} {listed : Array Bool} {j : Nat} (hc : closedL ops listed) (hj : j ∈ Region.ready .any ops listed) : closedL ops (listed.setIfInBounds j true) := by
  obtain ⟨hjl, _, oj, hoj, hall⟩ := ready_spec' hc hj
  have hset : ∀ m, (listed.setIfInBounds j true).getD m false = true ↔ m = j ∨ listed.getD m false = true := by
    intro m
    by_cases h : m = j
    · subst h
      have : m < listed.size := by rw [hc.1]; exact hjl
      simp [this]
    · have : j ≠ m := fun e => h e.symm
      simp [h, this]
  refine ⟨by simp [hc.1], fun m om hm hl e he hb => ?_⟩
  rw [hset] at hl ⊢
  right
  rcases hl with rfl | hl
  · have : om = oj := Option.some.inj (hm.symm.trans hoj)
    subst this
    exact hall e he hb
  · exact hc.2 m om hm hl e he hb
theorem pend_mono {ops : Array Oper} {listed : Array Bool} {j : Nat} (h : pend ops (listed.setIfInBounds j true)) : pend ops listed := by
  obtain ⟨i, h1, h2, h3⟩ := h
  refine ⟨i, h1, h2, ?_⟩
  by_cases hij : j = i
  · subst hij
    by_cases hl : j < listed.size
    · simp [hl] at h3
    · simp [hl]
  · simpa [Array.getElem?_setIfInBounds, hij] using h3

def wpAnyC (r : Option Nat) (P : Program) (ops : Array Oper) (Q : Exit → Act → World → Prop) (C : World → Prop) : Nat → Array Bool → Act → World → Prop
  | 0, listed, a, w => Region.ready .any ops listed = [] ∧ Q .normal a w
  | fuel + 1, listed, a, w =>
    (Region.ready .any ops listed = [] → Q .normal a w) ∧
    ∀ i ∈ Region.ready .any ops listed, wpOpIn (Wd r) 0 P ops Q i (fun a' w' => (needC ops i = true → C w → C w') ∧ wpAnyC r P ops Q C fuel (listed.setIfInBounds i true) a' w') a w

theorem wpAnyC_in {ops : Array Oper} {C : World → Prop} : ∀ (fuel : Nat) (listed : Array Bool) (a : Act) (w : World), wpAnyC r P ops Q C fuel listed a w → wpAnyIn (Wd r) 0 P .any ops Q fuel listed a w
  | 0, _, _, _, h => h
  | fuel + 1, _, _, _, h => ⟨h.1, fun i hi => wpOpIn_mono (fun a w hh => wpAnyC_in fuel _ a w hh.2) (h.2 i hi)⟩

/-- In every world of D operation o gives v and leaves the world. -/
def YldU (P : Program) (ops : Array Oper) (D : World → Prop) (o : Oper) (v : Value) (a : Act) : Prop :=
  (Region.wanted o (yielded ops a.tmps) = true ∧ (∀ c, o.op ≠ .defer c) ∧ ∀ w, D w → Up P (fun u w' => u = v ∧ w' = w) ((execOp a.eval o).run P w)) ∨ (Region.wanted o (yielded ops a.tmps) = false ∧ v = undef)

theorem Up.mono {k k' : Value → World → Prop} {res : Result Next} (h : Up P k res) (hk : ∀ v w, k v w → k' v w) : Up P k' res := by
  unfold Up at h ⊢
  split at h
  · exact hk _ _ h
  · exact hk _ _ h
  · exact h.mono fun _ _ ⟨v, he, hv⟩ => ⟨v, he, hk _ _ hv⟩
  · exact h.mono fun _ _ ⟨v, he, hv⟩ => ⟨v, he, hk _ _ hv⟩
  · exact h

theorem YldU.wpOpIn {ops : Array Oper} {D : World → Prop} {i : Nat} {o : Oper} {v : Value} (hi : ops[i]? = some o) (hy : YldU P ops D o v a) (hD : D w) {K : Act → World → Prop} (h : K (a.put o.dst v) w) : wpOpIn (Wd r) 0 P ops Q i K a w := by
  unfold Go.wpOpIn
  simp only [hi]
  rcases hy with ⟨hw, hnd, hv⟩ | ⟨hw, rfl⟩
  · rw [if_pos hw]
    refine ⟨fun _ _ => trivial, ?_⟩
    rw [Oper.semAt_eq _ _ _ hnd]
    refine up_upon ((hv w hD).mono ?_)
    rintro u w' ⟨rfl, rfl⟩
    exact h
  · rw [if_neg (by simp [hw])]
    exact ⟨fun _ _ => trivial, h⟩
theorem YldU.of_same {ops : Array Oper} {D : World → Prop} {o : Oper} {v : Value} {a a' : Act} (hy : YldU P ops D o v a) (he : execOp a'.eval o = execOp a.eval o)
    (hw : Region.wanted o (yielded ops a'.tmps) = Region.wanted o (yielded ops a.tmps)) : YldU P ops D o v a' := by
  unfold YldU at *
  rw [he, hw]
  exact hy

/-- The same two facts for any j that comes up while i waits. -/
theorem wpOpIn_putC {ops : Array Oper} {D : World → Prop} {j : Nat} {oi oj : Oper} {v : Value} (hj : ops[j]? = some oj) (hap : oi.apart ops oj = true)
    (hsi : ∀ cs b, oi.op ≠ .select cs b) (hsj : ∀ cs b, oj.op ≠ .select cs b) (hnd : ∀ c, oj.op ≠ .defer c)
    (hQ : ∀ c a w, ¬ Q (.panic c) a w) {K : Act → World → Prop} {a : Act} {w : World}
    (hy : YldU P ops D oi v a) (h : wpOpIn (Wd r) 0 P ops Q j K (a.put oi.dst v) w) :
    wpOpIn (Wd r) 0 P ops Q j (fun a' w' => YldU P ops D oi v a' ∧ K (a'.put oi.dst v) w') a w := by
  obtain ⟨h1, h2, h3⟩ := Oper.apart_spec hap
  have keep : ∀ (a : Act), YldU P ops D oi v a → ∀ u, YldU P ops D oi v (a.put oj.dst u) := fun a hy u =>
    hy.of_same (execOp_put oi hsi a oj.dst u h3) (wanted_put oi a oj.dst u h3)
  unfold wpOpIn at *
  simp only [hj] at *
  rw [wanted_put oj a oi.dst v h1] at h
  split
  · rename_i hw
    simp only [hw, if_true] at h
    refine ⟨fun _ _ => trivial, ?_⟩
    have h := h.2
    rw [Oper.semAt_eq _ _ _ hnd, execOp_put oj hsj a oi.dst v h1] at h
    rw [Oper.semAt_eq _ _ _ hnd]
    generalize (execOp a.eval oj).run P w = res at *
    cases res with
    | ok x w' =>
      cases x <;> simp only [Oper.uponIn] at h ⊢
      case value u => exact ⟨keep a hy u, by rw [← Act.put_comm a v u h2]; exact h⟩
      case skip => exact ⟨keep a hy _, by rw [← Act.put_comm a v undef h2]; exact h⟩
      case defer d =>
        refine ⟨keep _ (hy.of_same (a' := { a with defers := d :: a.defers }) rfl rfl) _, ?_⟩
        rw [← Act.put_comm _ v undef h2, ← Act.put_defers]
        exact h
      case enter f args =>
        refine ⟨h.1, CallsIn.mono h.2 fun e w'' he => ?_⟩
        cases e with
        | returned u => exact ⟨keep a hy u, by rw [← Act.put_comm a v u h2]; exact he⟩
        | panicked c => exact (hQ _ _ _ he).elim
        | outgrown => exact he
      case row row args => exact ⟨h.1, RowsIn.mono h.2 fun u w'' he => ⟨keep a hy u, by rw [← Act.put_comm a v u h2]; exact he⟩⟩
      case round l f tmps assign body =>
        refine ⟨h.1, RoundIn.mono h.2 fun e w'' he => ?_⟩
        cases e with
        | returned u => exact ⟨keep a hy u, by rw [← Act.put_comm a v u h2]; exact he⟩
        | panicked c => exact (hQ _ _ _ he).elim
        | outgrown => exact he
    | halt x w' =>
      cases x <;> simp only [Oper.uponIn] at h ⊢
      case panic u => exact (hQ _ _ _ h).elim
  · rename_i hw
    simp only [hw] at h
    exact ⟨fun _ _ => trivial, keep a hy _, by rw [← Act.put_comm a v undef h2]; exact h.2⟩

theorem wpAnyC_first {ops : Array Oper} {C D : World → Prop} {i : Nat} {oi : Oper} {v : Value} (hi : ops[i]? = some oi) (hsel : ∀ (j : Nat) (o : Oper), ops[j]? = some o → (∀ cs b, o.op ≠ .select cs b) ∧ ∀ c, o.op ≠ .defer c)
    (hQ : ∀ c a w, ¬ Q (.panic c) a w) (hDC : (∀ w, D w) ∨ (D = C ∧ worldlyAt ops i)) :
    ∀ (fuel : Nat) (listed : Array Bool) (a : Act) (w : World), closedL ops listed → D w →
      (∀ j oj, ops[j]? = some oj → j ≠ i → listed.getD j true = false → (∀ e ∈ oj.after, Region.binds .any e = true → e.on ≠ i) → oi.apart ops oj = true) →
      i ∈ Region.ready .any ops listed → YldU P ops D oi v a →
      wpAnyC r P ops Q C fuel (listed.setIfInBounds i true) (a.put oi.dst v) w → wpAnyC r P ops Q C (fuel + 1) listed a w := by
  intro fuel
  induction fuel with
  | zero =>
    intro listed a w _ hD _ hr hy H
    refine ⟨fun h => (by rw [h] at hr; cases hr), fun j hj => ?_⟩
    by_cases hji : j = i
    · subst hji; exact hy.wpOpIn hi hD ⟨fun _ h => h, H⟩
    · have := ready_mono hj hji
      rw [H.1] at this
      cases this
  | succ fuel ih =>
    intro listed a w hcl hD hfree hr hy H
    refine ⟨fun h => (by rw [h] at hr; cases hr), fun j hj => ?_⟩
    by_cases hji : j = i
    · subst hji; exact hy.wpOpIn hi hD ⟨fun _ h => h, H⟩
    · have h1 := H.2 j (ready_mono hj hji)
      obtain ⟨hjun, oj, hoj, hall⟩ := mem_ready.1 hj
      have hnot : ∀ e ∈ oj.after, Region.binds .any e = true → e.on ≠ i := fun e he hb heq => by
        have h1 := hall e he hb
        have h0 := (mem_ready.1 hr).1
        rw [heq] at h1
        rcases Nat.lt_or_ge i listed.size with h' | h'
        · simp [h'] at h0 h1; rw [h0] at h1; cases h1
        · simp [Array.getElem?_eq_none h'] at h1
      have h2 := wpOpIn_putC hoj (hfree j oj hoj hji hjun hnot) (hsel i oi hi).1 (hsel j oj hoj).1 (hsel j oj hoj).2 hQ hy h1
      have hfree' : ∀ k ok, ops[k]? = some ok → k ≠ i → (listed.setIfInBounds j true).getD k true = false →
          (∀ e ∈ ok.after, Region.binds .any e = true → e.on ≠ i) → oi.apart ops ok = true := fun k ok hk hki hun hno => by
        refine hfree k ok hk hki ?_ hno
        by_cases hjk : j = k
        · subst hjk; exact hjun
        · rw [getD_set_ne true hjk] at hun; exact hun
      refine wpOpIn_mono (fun a' w' h3 => ?_) h2
      obtain ⟨h3y, h3c, h3w⟩ := h3
      refine ⟨h3c, ih (listed.setIfInBounds j true) a' w' (closedL_set hcl hj) ?_ hfree' (ready_mono hr (Ne.symm hji)) h3y ?_⟩
      · rcases hDC with hall | ⟨rfl, hwi⟩
        · exact hall w'
        · obtain ⟨hil, hiun, _⟩ := ready_spec' hcl hr
          exact h3c (need_of hcl hj hwi hiun hil (Ne.symm hji)) hD
      · rw [Array.setIfInBounds_comm _ _ hji]
        exact h3w
end
end Go.Proofs.YtlefdgplobifiaaGreatDoor
