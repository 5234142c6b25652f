/- A still operation gives one value. -/
import Derived.Test.YtlefdgplobifiaaGreatDoorDenD
set_option linter.unusedSimpArgs false
set_option linter.unusedVariables false
namespace Go.Proofs.YtlefdgplobifiaaGreatDoor
open Go

section
variable {P : Program} {w : World} {k : Value → World → Prop}

/-- What an operation that reads no memory gives: the same in every world. -/
def OnePure (P : Program) (o : Oper) (ac : Act) (k : Value → World → Prop) (w : World) : Prop := ∃ v, (∀ w', denOp P o ac (fun u w'' => u = v ∧ w'' = w') w') ∧ k v w

theorem pure_builtin {b : Builtin} {ats : Array TypeId} {ty : TypeId} {args : List Value} (hs : b = .len ∨ b = .cap ∨ b = .max ∨ b = .min) (hnl : b ≠ .len) (h : denBuiltin P b ats ty args k w) :
    ∃ v, (∀ w', denBuiltin P b ats ty args (fun u w'' => u = v ∧ w'' = w') w') ∧ k v w := by
  unfold denBuiltin at h
  split at h
  all_goals first
    | exact h.elim
    | (exfalso; revert hs hnl; simp; done)
    | skip
  · split at h
    case h_2 => exact h.elim
    rename_i t ht
    split at h
    · rename_i hu
      refine ⟨_, fun w' => ?_, h⟩
      simp only [denBuiltin, ht, hu, and_self]
    · exact h.elim
  · exact ⟨_, fun w' => ⟨rfl, rfl⟩, h⟩
  · exact ⟨_, fun w' => ⟨rfl, rfl⟩, h⟩

theorem pure_binOp {o : Oper} {ac : Act} {op : BinOp} {t u : TypeId} {x y : Operand} (ho : o.op = .binOp op t x y u) (h : denOp P o ac k w) : OnePure P o ac k w := by
  unfold OnePure
  simp only [denOp, ho, aggK_eq, litT_eq, evL_eq, zip12, Array.toArray_toList] at h ⊢
  generalize ac.eval x = a at h ⊢
  generalize ac.eval y = b at h ⊢
  split at h
  · obtain ⟨v, h1, h2⟩ := binK_pin h
    exact ⟨v, fun w' => by simpa using h1, h2⟩
  · obtain ⟨v, h1, h2⟩ := binK_pin h
    exact ⟨v, fun w' => by simpa using h1, h2⟩
  · split at h
    case h_2 => exact h.elim
    rename_i cst
    split at h
    · obtain ⟨c, h1, h2⟩ := eqK_pin h
      exact ⟨.bool c, fun w' => by simpa using h1, h2⟩
    · obtain ⟨c, h1, h2⟩ := eqK_pin h
      exact ⟨.bool (!c), fun w' => by simpa using h1, h2⟩
    · exact h.elim
  · split at h
    · obtain ⟨c, h1, h2⟩ := eqK_pin h
      exact ⟨.bool c, fun w' => by simpa using h1, h2⟩
    · obtain ⟨c, h1, h2⟩ := eqK_pin h
      exact ⟨.bool (!c), fun w' => by simpa using h1, h2⟩
    · exact h.elim

theorem pure_slice {o : Oper} {ac : Act} {t : TypeId} {x : Operand} {lo hi mx : Option Operand} (ho : o.op = .slice t x lo hi mx) (h : denOp P o ac k w) : OnePure P o ac k w := by
  unfold OnePure
  cases mx with
  | some m =>
    cases hi with
    | none => simp only [denOp, ho, aggK_eq, litT_eq, evL_eq, zip12, Array.toArray_toList] at h
    | some hi =>
      simp only [denOp, ho, aggK_eq, litT_eq, evL_eq, zip12, Array.toArray_toList] at h ⊢
      generalize ac.eval x = a at h ⊢
      generalize ac.eval m = b at h ⊢
      split at h
      case h_2 => exact h.elim
      split at h
      case h_2 => exact h.elim
      obtain ⟨h0, h⟩ := h
      obtain ⟨m, h, hm⟩ := sliceB_pin h
      obtain ⟨m', h, hm'⟩ := sliceB_pin h
      exact ⟨_, fun w' => ⟨h0, hm _ (hm' _ (by first | exact ⟨rfl, trivial⟩ | exact ⟨rfl, rfl⟩))⟩, h⟩
  | none =>
    simp only [denOp, ho, aggK_eq, litT_eq, evL_eq, zip12, Array.toArray_toList] at h ⊢
    generalize ac.eval x = a at h ⊢
    split at h
    · rename_i s hu
      obtain ⟨m, h, hm⟩ := sliceB_pin h
      obtain ⟨m', h, hm'⟩ := sliceB_pin h
      refine ⟨_, fun w' => ?_, h⟩
      exact hm _ (hm' _ (by first | exact ⟨rfl, trivial⟩ | exact ⟨rfl, rfl⟩))
    · rename_i e p n c hu
      split at h
      · rename_i i hi
        obtain ⟨m, h, hm⟩ := sliceB_pin h
        obtain ⟨m', h, hm'⟩ := sliceB_pin h
        refine ⟨_, fun w' => ?_, h⟩
        exact hm _ (hm' _ (by first | exact ⟨rfl, trivial⟩ | exact ⟨rfl, rfl⟩))
      · exact h.elim
    · exact h.elim

theorem denOp_pure {o : Oper} {ac : Act} (hs : stillOp P o.op = true) (hw : worldlyOp o.op = false) (h : denOp P o ac k w) : OnePure P o ac k w := by
  cases ho : o.op
  case binOp => exact pure_binOp ho h
  case slice => exact pure_slice ho h
  all_goals (rw [ho] at hs hw; first | (cases hs; done) | (cases hw; done) | skip)
  all_goals unfold OnePure
  all_goals simp only [denOp, ho, evA_eq, aggK_eq, litT_eq, evL_eq, zip12, Array.toArray_toList] at h ⊢
  case move => exact ⟨_, fun _ => (by first | exact ⟨rfl, trivial⟩ | exact ⟨rfl, rfl⟩ | (simp [*]; done)), h⟩
  case assign => exact ⟨_, fun _ => (by first | exact ⟨rfl, trivial⟩ | exact ⟨rfl, rfl⟩ | (simp [*]; done)), h⟩
  case pick c a b =>
    split at h
    · rename_i t hc
      cases t with
      | true => exact ⟨_, fun _ => (by first | exact ⟨rfl, trivial⟩ | exact ⟨rfl, rfl⟩ | (simp [*]; done)), h⟩
      | false => exact ⟨_, fun _ => (by first | exact ⟨rfl, trivial⟩ | exact ⟨rfl, rfl⟩ | (simp [*]; done)), h⟩
    · exact h.elim
  case build t parts =>
    split at h
    · rename_i v hv
      refine ⟨_, fun _ => ?_, h⟩
      first | exact ⟨rfl, trivial⟩ | exact ⟨rfl, rfl⟩ | (simp [*]; done)
    · exact h.elim
  case nilCheck x =>
    split at h
    · rename_i p hp
      unfold NN at h
      split at h
      · refine ⟨_, fun _ => ?_, h⟩
        first | exact ⟨rfl, trivial⟩ | exact ⟨rfl, rfl⟩ | (simp [*]; done)
      · exact h.elim
    · exact h.elim
  case unOp op t x =>
    split at h
    · rename_i b hx
      refine ⟨_, fun _ => ?_, h⟩
      first | exact ⟨rfl, trivial⟩ | exact ⟨rfl, rfl⟩ | (simp [*]; done)
    · rename_i κ n hx
      refine ⟨_, fun _ => ?_, h⟩
      first | exact ⟨rfl, trivial⟩ | exact ⟨rfl, rfl⟩ | (simp [*]; done)
    · exact h.elim
  case convert s d x =>
    split at h
    · rename_i d κ κ' n h1 h2 h3
      refine ⟨_, fun _ => ?_, h⟩
      first | exact ⟨rfl, trivial⟩ | exact ⟨rfl, rfl⟩ | (simp [*]; done)
    · rename_i d s h1 h2 h3
      refine ⟨_, fun _ => ?_, h⟩
      first | exact ⟨rfl, trivial⟩ | exact ⟨rfl, rfl⟩ | (simp [*]; done)
    · rename_i κ κ' n h1 h2 h3
      refine ⟨_, fun _ => ?_, h⟩
      first | exact ⟨rfl, trivial⟩ | exact ⟨rfl, rfl⟩ | (simp [*]; done)
    · rename_i h1 h2 h3
      simp [stillOp, convStill, h1] at hs
    · rename_i h1 h2 h3
      simp [stillOp, convStill, h1, h2] at hs
    · rename_i h1 h2 h3
      simp [stillOp, convStill, h1, h2] at hs
    · rename_i h1 h2 h3
      simp [stillOp, convStill, h1, h2] at hs
    · rename_i h1 h2 h3
      simp [stillOp, convStill, h1] at hs
    · exact h.elim
  case makeFunc => exact ⟨_, fun _ => (by first | exact ⟨rfl, trivial⟩ | exact ⟨rfl, rfl⟩ | (simp [*]; done)), h⟩
  case fieldAddr s x f =>
    split at h
    case h_2 => exact h.elim
    rename_i a hx
    split at h
    case h_2 => exact h.elim
    rename_i off t hf
    refine ⟨_, fun _ => ?_, h⟩
    first | exact ⟨rfl, trivial⟩ | exact ⟨rfl, rfl⟩ | (simp [*]; done)
  case field s x f =>
    split at h
    case h_2 => exact h.elim
    obtain ⟨v, h1, h2⟩ := partK_pin h
    refine ⟨v, fun w' => h2 _ ?_, h1⟩
    first | exact ⟨rfl, trivial⟩ | exact ⟨rfl, rfl⟩ | (simp [*]; done)
  case indexAddr t x ix =>
    split at h
    case h_3 => exact h.elim
    · rename_i e p n c κ i h1 h2 h3
      split at h
      case h_2 => exact h.elim
      rename_i j hj
      obtain ⟨y, h4, h5, h6, h7⟩ := h
      refine ⟨_, fun _ => ?_, h7⟩
      exact ⟨y, h4, h5, h6, rfl, trivial⟩
    · rename_i n e a κ i h1 h2 h3
      split at h
      case h_2 => exact h.elim
      rename_i j hj
      obtain ⟨h4, h7⟩ := h
      refine ⟨_, fun _ => ?_, h7⟩
      exact ⟨h4, rfl, trivial⟩
  case index t x ix =>
    split at h
    case h_2 => exact h.elim
    rename_i s κ i h1 h2 h3
    obtain ⟨b, h4, h5, h6⟩ := h
    refine ⟨_, fun _ => ?_, h6⟩
    exact ⟨b, h4, h5, rfl, trivial⟩
  case extract t i =>
    split at h
    case h_2 => exact h.elim
    obtain ⟨v, h1, h2⟩ := nthO_pin h
    exact ⟨v, fun w' => h2 _ (by first | exact ⟨rfl, trivial⟩ | exact ⟨rfl, rfl⟩), h1⟩
  case call c =>
    obtain ⟨cal, args, ats⟩ := c
    cases cal with
    | value f => cases hs
    | invoke _ _ => cases hs
    | builtin b =>
      simp only at h ⊢
      cases b <;> first | (cases hs; done) | (cases hw; done) | exact pure_builtin (by simp) (by simp) h

/-- A still operation that reads memory: one value in this world. -/
theorem denOp_pin {o : Oper} {ac : Act} (hw : worldlyOp o.op = true) (h : denOp P o ac k w) :
    ∃ v, denOp P o ac (fun u w'' => u = v ∧ w'' = w) w ∧ k v w := by
  cases ho : o.op
  all_goals (rw [ho] at hw; first | (cases hw; done) | skip)
  all_goals simp only [denOp, ho, aggK_eq, litT_eq, evL_eq, zip12, Array.toArray_toList] at h ⊢
  case load t a =>
    split at h
    · rename_i p hp
      obtain ⟨v, h1, h2⟩ := ldV_pin h
      refine ⟨v, ?_, h2⟩
      first | exact h1 | (rw [hp]; exact h1)
    · exact h.elim
  case lookup t x ix ok =>
    split at h
    case h_2 => exact h.elim
    rename_i kt et m h1 h2
    split at h
    case h_2 => exact h.elim
    rename_i kd i h3 h4
    split at h
    case h_2 => exact h.elim
    rename_i z h5
    split at h
    case isFalse => exact h.elim
    rename_i h6
    obtain ⟨ov, h7, h8⟩ := h
    obtain ⟨u, ⟨h9, h10⟩, h11⟩ := exV_pin h8
    refine ⟨_, ?_, h10⟩
    first | skip | rw [h1, h2]
    try simp only [h6, if_true]
    exact ⟨ov, h7, exV_mono (fun u' e => by subst e; exact ⟨h9, rfl, rfl⟩) h11⟩
  case call c =>
    obtain ⟨cal, args, ats⟩ := c
    cases cal with
    | value f => cases hw
    | invoke _ _ => cases hw
    | builtin b =>
      cases b <;> first | (cases hw; done) | skip
      simp only at h ⊢
      match hx : args.toList.map ac.eval, h with
      | [], h => simp only [denBuiltin] at h
      | _ :: _ :: _, h => simp only [denBuiltin] at h
      | [x], h =>
        simp only [denBuiltin] at h ⊢
        split at h
        case h_2 => exact h.elim
        rename_i t ht
        split at h
        · exact ⟨_, ⟨rfl, trivial⟩, h⟩
        · exact ⟨_, ⟨rfl, trivial⟩, h⟩
        · exact ⟨_, ⟨rfl, trivial⟩, h⟩
        · rcases h with ⟨rfl, h⟩ | ⟨b, es, cl, rfl, hb, h⟩
          · exact ⟨_, .inl ⟨rfl, rfl, rfl⟩, h⟩
          · exact ⟨_, .inr ⟨b, es, cl, rfl, hb, rfl, rfl⟩, h⟩
        · exact h.elim
end
end Go.Proofs.YtlefdgplobifiaaGreatDoor
