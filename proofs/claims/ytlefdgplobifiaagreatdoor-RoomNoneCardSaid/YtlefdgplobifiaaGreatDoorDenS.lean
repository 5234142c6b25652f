/- Each operation's precondition 'denOp' implies what the model's run of it gives. -/
import Derived.Test.YtlefdgplobifiaaGreatDoorDen
import Derived.Laws.StructEq
namespace Go.Proofs.YtlefdgplobifiaaGreatDoor
open Go

/-- What an operation's run must be, that k may hold behind it. -/
def Up (P : Program) (k : Value → World → Prop) : Result Next → Prop
  | .ok (.value v) w' => k v w'
  | .ok .skip w' => k undef w'
  | .ok (.enter f args) w' => Calls P f args w' fun e w'' => ∃ v, e = .returned v ∧ k v w''
  | .ok (.round l f tmps assign body) w' => RoundIn Fence.wide 0 P l f tmps assign body w' fun e w'' => ∃ v, e = .returned v ∧ k v w''
  | _ => False

section
variable {P : Program} {k : Value → World → Prop} {w w' : World}

theorem run_und {t : TypeId} {d : TypeDesc} (h : P.underlying t = some d) (w : World) : (underlying t).run P w = .ok d w := by
  simp [underlying, h]
theorem run_tinfo {t : TypeId} {i : TypeInfo} (h : P.info? t = some i) (w : World) : (typeInfo t).run P w = .ok i w := by
  simp [typeInfo, h]
theorem run_sz {t : TypeId} {i : TypeInfo} (h : P.info? t = some i) (w : World) : (sizeOf t).run P w = .ok i.size w := by
  simp [sizeOf, run_tinfo h]
theorem run_zero {t : TypeId} {i : TypeInfo} {z : Value} (h : P.info? t = some i) (hz : i.zero = some z) (w : World) : (zeroValue t).run P w = .ok z w := by
  simp [zeroValue, run_tinfo h, hz]
theorem run_agg (t : TypeId) {d : TypeDesc} (h : P.underlying t = some d) (w : World) : (isAgg t).run P w = .ok (aggT P t) w := by
  unfold isAgg aggT
  simp only [Sem.run_bind, run_und h, Result.andThen_ok, h]
  cases d <;> simp

theorem up_val {v : Value} (h : k v w) : Up P k (.ok (.value v) w) := h
theorem up_v {s : Sem Value} {v : Value} (h : s.run P w = .ok v w') (hk : k v w') : Up P k (Sem.run P (do pure (.value (← s))) w) := by
  simp only [Sem.run_bind, h, Result.andThen_ok, Sem.run_pure]; exact hk
theorem up_u {s : Sem Unit} (h : s.run P w = .ok () w') (hk : k undef w') : Up P k (Sem.run P (do s; pure .skip) w) := by
  simp only [Sem.run_bind, h, Result.andThen_ok, Sem.run_pure]; exact hk

theorem zip12 {a : Act} (l : List (Nat × Operand)) : (l.map (·.1)).zip ((l.map (·.2)).map a.eval) = l.map fun (i, x) => (i, a.eval x) := by
  induction l with
  | nil => rfl
  | cons x l ih => simp only [List.map_cons, List.zip_cons_cons, ih]
theorem CALL.mono {k' : Value → World → Prop} {g : FuncId} {args : Array Value} (h : CALL P g args k w) (hk : ∀ v w, k v w → k' v w) : CALL P g args k' w :=
  ⟨h.1.imp (fun h => ⟨h.1, h.2.mono fun _ _ ⟨v, he, hv⟩ => ⟨v, he, hk _ _ hv⟩⟩) (fun ⟨v, w', h, hv⟩ => ⟨v, w', h, hk _ _ hv⟩)⟩
theorem YLD.mono {k' : Value → World → Prop} {l : Nat} {args : Array Value} (h : YLD P l args k w) (hk : ∀ v w, k v w → k' v w) : YLD P l args k' w := by
  obtain ⟨rec, h1, h2, h3⟩ := h
  exact ⟨rec, h1, h2, h3.mono fun _ _ ⟨v, he, hv⟩ => ⟨v, he, hk _ _ hv⟩⟩
theorem DYN.mono {k' : Value → World → Prop} {v : Value} {args : Array Value} (h : DYN P v args k w) (hk : ∀ v w, k v w → k' v w) : DYN P v args k' w := by
  obtain ⟨h⟩ := h
  constructor
  split at h
  · exact CALL.mono h hk
  · exact YLD.mono h hk
  · exact h.elim

theorem exCell_out {t : TypeId} {F : Value → Prop} (h : exCell P t F) : ∃ v, F v := by
  unfold exCell at h
  split at h <;> exact ⟨_, h.choose_spec⟩
theorem exAgg_out : ∀ (ts : List TypeId) {F : List Value → Prop}, exAgg P ts F → ∃ l, F l
  | [], _, h => ⟨_, h⟩
  | t :: ts, F, h => by
    obtain ⟨v, hv⟩ := exCell_out (h : exCell P t fun c => exAgg P ts fun l => F (c :: l))
    obtain ⟨l, hl⟩ := exAgg_out ts hv
    exact ⟨_, hl⟩
theorem exV_out {t : TypeId} {F : Value → Prop} (h : exV P t F) : ∃ v, F v := by
  unfold exV at h
  split at h
  · obtain ⟨cs, h⟩ := h; exact ⟨_, h⟩
  split at h
  · obtain ⟨l, hl⟩ := exAgg_out _ h; exact ⟨_, hl⟩
  · exact exCell_out h
theorem exTup_out : ∀ (ts : List TypeId) {F : List Value → Prop}, exTup P ts F → ∃ l, F l
  | [], _, h => ⟨_, h⟩
  | t :: ts, F, h => by
    obtain ⟨v, hv⟩ := exV_out (h : exV P t fun c => exTup P ts fun l => F (c :: l))
    obtain ⟨l, hl⟩ := exTup_out ts hv
    exact ⟨_, hl⟩
theorem asR_out {t : TypeId} {v : Value} {q : Value → Prop} (h : asR P t v q) : q v := by
  unfold asR at h
  split at h
  · obtain ⟨u, rfl, hu⟩ := exTup_out _ h; exact hu
  · obtain ⟨u, rfl, hu⟩ := exV_out h; exact hu

theorem ldCell_run {t : TypeId} {a : Addr} (h : ldCell P t a k w) : ∃ v, w.cell? a = some v ∧ k v w := by
  unfold ldCell at h
  split at h <;> first
    | exact h.elim
    | (obtain ⟨x, h1, h2⟩ := h; exact ⟨_, h1, h2⟩)

theorem ldAgg_run {a : Addr} : ∀ (ts : List TypeId) (i : Nat) (acc : List Value) {k : List Value → World → Prop}, ldAgg P a ts i k w →
    ∃ vs : List Value, (loadCellsFrom a i ts.length acc.toArray).run P w = .ok (acc ++ vs).toArray w ∧ k vs w
  | [], i, acc, k, h => ⟨[], by simp [loadCellsFrom], by simpa [ldAgg] using h⟩
  | t :: ts, i, acc, k, h => by
    obtain ⟨v, h1, h2⟩ := ldCell_run (h : ldCell P t (a.add i) _ w)
    obtain ⟨vs, h3, h4⟩ := ldAgg_run ts (i + 1) (acc ++ [v]) h2
    refine ⟨v :: vs, ?_, h4⟩
    simp only [List.length_cons, loadCellsFrom, Sem.run_bind, run_load, h1, Result.andThen_ok]
    simpa using h3

theorem cellsAt_out {a : Addr} : ∀ (n i : Nat) (l acc : List Value), cellsAt w a i n = some l → l.length = n ∧ (loadCellsFrom a i n acc.toArray).run P w = .ok (acc ++ l).toArray w
  | 0, i, l, acc, h => by simp [cellsAt] at h; subst h; simp [loadCellsFrom]
  | n + 1, i, l, acc, h => by
    unfold cellsAt at h
    split at h
    · rename_i v vs h1 h2
      simp only [Option.some.injEq] at h
      subst h
      obtain ⟨h3, h4⟩ := cellsAt_out n (i + 1) vs (acc ++ [v]) h2
      refine ⟨by simp [h3], ?_⟩
      simp only [loadCellsFrom, Sem.run_bind, run_load, h1, Result.andThen_ok]
      simpa using h4
    · cases h
theorem arrT_und {t : TypeId} (h : arrT P t = true) : ∃ n e, P.underlying t = some (.array n e) := by
  unfold arrT at h; split at h <;> first | exact ⟨_, _, by assumption⟩ | cases h
theorem arrT_agg {t : TypeId} (h : arrT P t = true) : aggT P t = true := by
  obtain ⟨n, e, h⟩ := arrT_und h
  simp [aggT, h]
theorem ldV_run {t : TypeId} {a : Addr} (h : ldV P t a k w) : ∃ v, (loadVar t a).run P w = .ok v w ∧ k v w := by
  unfold ldV at h
  split at h
  · rename_i har
    obtain ⟨n, e, hd⟩ := arrT_und har
    split at h
    case h_2 => exact h.elim
    rename_i i hi
    obtain ⟨cs, h1, h2, h3⟩ := h
    refine ⟨_, ?_, h3⟩
    obtain ⟨_, h4⟩ := cellsAt_out (P := P) _ _ _ [] h2
    simp only [loadVar, Sem.run_bind, run_agg t hd, Result.andThen_ok, arrT_agg har, if_true, Sem.run_ite, run_sz hi, loadCells, Sem.run_pure]
    simp only [List.nil_append, Array.toArray_toList] at h4
    rw [h4]; rfl
  split at h
  · rename_i hag
    split at h
    · rename_i hsz
      obtain ⟨vs, h1, h2⟩ := ldAgg_run _ _ [] h
      obtain ⟨i, hi, hs⟩ := Option.map_eq_some_iff.1 hsz
      have hu : ∃ d, P.underlying t = some d := by
        unfold aggT at hag; split at hag <;> first | exact ⟨_, by assumption⟩ | cases hag
      obtain ⟨d, hd⟩ := hu
      refine ⟨_, ?_, h2⟩
      simp only [loadVar, Sem.run_bind, run_agg t hd, Result.andThen_ok, hag, if_true, Sem.run_ite, run_sz hi, hs, loadCells, Sem.run_pure]
      simp only [List.nil_append] at h1
      rw [h1]; rfl
    · exact h.elim
  · rename_i hag
    obtain ⟨v, h1, h2⟩ := ldCell_run h
    have hu : ∃ d, P.underlying t = some d := by
      unfold ldCell at h; split at h <;> first | exact ⟨_, by assumption⟩ | exact h.elim
    obtain ⟨d, hd⟩ := hu
    refine ⟨v, ?_, h2⟩
    simp only [loadVar, Sem.run_bind, run_agg t hd, Result.andThen_ok, hag, Sem.run_ite, Bool.false_eq_true, if_false, run_load, h1]

theorem stAll_run {q : World → Prop} (a : Addr) : ∀ (vs : List Value) (i : Nat) (w : World), stAll a q vs i w → ∃ w', (storeCells a vs i).run P w = .ok () w' ∧ q w'
  | [], i, w, h => ⟨w, by simp [storeCells], h⟩
  | v :: vs, i, w, h => by
    obtain ⟨hv, ⟨u, hu⟩, hf, h⟩ := (h : ST (a.add i) v (fun w => stAll a q vs (i + 1) w) w)
    obtain ⟨w', h1, h2⟩ := stAll_run a vs (i + 1) _ h
    refine ⟨w', ?_, h2⟩
    simp only [storeCells, Sem.run_bind, run_store P w (a.add i) v .plain hv, hu, hf, Bool.false_eq_true, if_false, Result.andThen_ok, h1]
theorem stV_run {t : TypeId} {a : Addr} {v : Value} {q : World → Prop} (h : stV P t a v q w) : ∃ w', (storeVar t a v).run P w = .ok () w' ∧ q w' := by
  unfold stV at h
  split at h
  · split at h
    case h_2 => exact h.elim
    rename_i i cs hi
    obtain ⟨hs, h⟩ := h
    obtain ⟨w', h1, h2⟩ := stAll_run (P := P) a _ 0 w h
    refine ⟨w', ?_, h2⟩
    simp only [storeVar, Sem.run_bind, run_sz hi, Result.andThen_ok, Value.cells, hs, ne_eq, not_true_eq_false, if_false, Sem.run_ite, h1]
  split at h
  · rename_i hsz
    obtain ⟨i, hi, hs⟩ := Option.map_eq_some_iff.1 hsz
    obtain ⟨w', h1, h2⟩ := stAll_run (P := P) a _ 0 w h
    refine ⟨w', ?_, h2⟩
    simp only [storeVar, Sem.run_bind, run_sz hi, Result.andThen_ok, hs, ne_eq, not_true_eq_false, if_false, Sem.run_ite, h1]
  · exact h.elim

theorem binK_run {op : BinOp} {t : TypeId} {x y : Value} {q : Value → Prop} (hsc : (∃ κ a κ' b, x = .int κ a ∧ y = .int κ' b) ∨ (∃ a b, x = .string a ∧ y = .string b)) (h : binK op x y q) :
    ∃ v, (binOp op t x y).run P w = .ok v w ∧ q v := by
  rcases hsc with ⟨κ, a, κ', b, rfl, rfl⟩ | ⟨a, b, rfl, rfl⟩
  · cases op <;> simp only [binK] at h
    case shl => exact ⟨_, by simp [binOp, Op.shift, Int.not_lt.2 h.1], h.2⟩
    case shr => exact ⟨_, by simp [binOp, Op.shift, Int.not_lt.2 h.1], h.2⟩
    all_goals
      split at h
      case isFalse => exact h.elim
      rename_i hk
      subst hk
      first
        | exact ⟨_, by simp [binOp, Op.intArith, Op.intBits, Op.intCmp, intBit], h⟩
        | exact ⟨_, by simp [binOp, Op.intDiv, h.1], h.2⟩
  · have e : (a.toList == b.toList) = decide (a = b) := by
      rw [Bool.eq_iff_iff]
      simp only [beq_iff_eq, decide_eq_true_eq]
      constructor
      · intro h
        rw [ByteArray.toList_eq, ByteArray.toList_eq] at h
        exact ByteArray.ext (Array.toList_inj.1 h)
      · rintro rfl; rfl
    cases op <;> simp only [binK] at h
    case add => exact ⟨_, by have := h.1; simp [binOp, Op.stringOp, IntKind.max, IntKind.bits, IntKind.signed]; omega, h.2⟩
    all_goals first
      | exact h.elim
      | exact ⟨_, by simp [binOp, Op.stringOp, e, strLt], h⟩

theorem str_beq (a b : ByteArray) : (a == b) = decide (a = b) := by
  rw [beq_toListBytes, Bool.eq_iff_iff]
  simp only [beq_iff_eq, decide_eq_true_eq]
  constructor
  · intro h
    rw [ByteArray.toList_eq, ByteArray.toList_eq] at h
    exact ByteArray.ext (Array.toList_inj.1 h)
  · rintro rfl; rfl
theorem eqFld_run (n : Nat) {t : TypeId} {x y : Value} {b : Bool} (h : eqFld P t x y = some b) : (Op.equalIn (n + 1) t x y).run P w = .ok b w := by
  unfold eqFld at h
  split at h
  · rename_i hu
    split at h
    · rename_i e; subst e
      simp only [Option.some.injEq] at h; subst h
      simp [Op.equalIn, run_und hu]
    · cases h
  · rename_i hu
    simp only [Option.some.injEq] at h; subst h
    simp [Op.equalIn, run_und hu]
  · rename_i hu
    simp only [Option.some.injEq] at h; subst h
    simp [Op.equalIn, run_und hu, str_beq]
  · cases h
theorem eqFld_part {t : TypeId} {x y : Value} {b : Bool} (h : eqFld P t x y = some b) (xs : Array Value) (i : Nat) (v : Value) (hx : xs[i]? = some v) : (part t xs i).run P w = .ok v w := by
  have hu : ∃ d, P.underlying t = some d ∧ aggT P t = false := by
    unfold eqFld at h
    split at h
    · rename_i hu; exact ⟨_, hu, by simp [aggT, hu]⟩
    · rename_i hu; exact ⟨_, hu, by simp [aggT, hu]⟩
    · rename_i hu; exact ⟨_, hu, by simp [aggT, hu]⟩
    · cases h
  obtain ⟨d, hu, ha⟩ := hu
  unfold part
  simp only [Sem.run_bind, run_agg t hu, Result.andThen_ok, ha, Bool.false_eq_true, if_false, hx, Sem.run_pure]
theorem eqFs_run (m : Nat) (xs ys : Array Value) : ∀ (fs : List Field) (n : Nat) (l l' : List Value) (b : Bool), xs.toList.drop n = l → ys.toList.drop n = l' → eqFs P fs n l l' = some b →
    (Op.eqFields (m + 1) xs ys fs).run P w = .ok b w
  | [], n, [], [], b, h1, h2, h => by simp only [eqFs, Option.some.injEq] at h; subst h; simp [Op.eqFields]
  | [], n, _ :: _, _, b, h1, h2, h => by simp [eqFs] at h
  | [], n, [], _ :: _, b, h1, h2, h => by simp [eqFs] at h
  | f :: fs, n, [], _, b, h1, h2, h => by simp [eqFs] at h
  | f :: fs, n, _ :: _, [], b, h1, h2, h => by simp [eqFs] at h
  | f :: fs, n, x :: l, y :: l', b, h1, h2, h => by
    unfold eqFs at h
    split at h
    case isFalse => cases h
    rename_i hc
    simp only [Bool.and_eq_true, bne_iff_ne, ne_eq, beq_iff_eq] at hc
    obtain ⟨hn, ho⟩ := hc
    split at h
    case h_2 => cases h
    rename_i a' b' ha hb
    simp only [Option.some.injEq] at h
    subst h
    have hx : xs[n]? = some x := by
      have := congrArg (fun l => l[0]?) h1
      simpa using this
    have hy : ys[n]? = some y := by
      have := congrArg (fun l => l[0]?) h2
      simpa using this
    have ih := eqFs_run m xs ys fs (n + 1) l l' b' (by rw [← List.tail_drop, h1]; rfl) (by rw [← List.tail_drop, h2]; rfl) hb
    simp only [Op.eqFields, ne_eq, hn, not_false_eq_true, if_true, Sem.run_bind, ho, eqFld_part ha xs n x hx, eqFld_part ha ys n y hy, Result.andThen_ok, eqFld_run m ha]
    cases a' with
    | false => simp
    | true => simpa using ih
theorem eqK_runN (n : Nat) {t : TypeId} {x y : Value} {q : Bool → Prop} (h : eqK P t x y q) : ∃ b, (Op.equalIn (n + 2) t x y).run P w = .ok b w ∧ q b := by
  obtain ⟨m, hm⟩ : ∃ m, m = n + 1 := ⟨_, rfl⟩
  rw [show n + 2 = m + 1 by omega]
  unfold eqK at h
  split at h
  · rename_i hu
    split at h
    · exact ⟨_, by simp [Op.equalIn, run_und hu], h⟩
    · exact h.elim
  · rename_i e hu
    split at h
    · rename_i p r
      split at h
      case isFalse => exact h.elim
      rename_i hi
      unfold PEQ at h
      cases hie : P.info? e with
      | none => rw [hie] at hi; cases hi
      | some i =>
        rw [hie] at hi
        have hsz : i.size ≠ 0 := by simpa using hi
        split at h
        · cases p with
          | none => exact ⟨_, by simp [Op.equalIn, run_und hu], h⟩
          | some a => exact ⟨_, by simp [Op.equalIn, run_und hu], h⟩
        · split at h
          · exact ⟨_, by simp [Op.equalIn, run_und hu], h⟩
          · obtain ⟨hb, h⟩ := h
            exact ⟨_, by simp [Op.equalIn, run_und hu, run_sz hie, hsz, sameAddr, hb], h⟩
    · exact h.elim
  · rename_i e hu
    split at h
    · rename_i p n c n' c'
      cases p with
      | none => exact ⟨_, by simp [Op.equalIn, run_und hu], h⟩
      | some a => exact ⟨_, by simp [Op.equalIn, run_und hu], h⟩
    · exact h.elim
  · rename_i hu
    split at h
    · rename_i p
      cases p with
      | none => exact ⟨_, by simp [Op.equalIn, run_und hu], h⟩
      | some a => exact ⟨_, by simp [Op.equalIn, run_und hu], h⟩
    · exact h.elim
  · rename_i hu
    split at h
    · unfold FNIL at h
      split at h
      · exact ⟨_, by simp [Op.equalIn, run_und hu], h⟩
      · exact ⟨_, by simp [Op.equalIn, run_und hu], h⟩
      · exact h.elim
    · exact h.elim
  · rename_i fs hu
    split at h
    case h_2 => exact h.elim
    rename_i xs ys
    split at h
    case isFalse => exact h.elim
    rename_i hfl
    split at h
    case h_2 => exact h.elim
    rename_i b hb
    simp only [flatT, Bool.and_eq_true, Bool.not_eq_true'] at hfl
    have hfo : P.fieldsOf t = fs := by simp [Program.fieldsOf, hu]
    refine ⟨b, ?_, h⟩
    rw [run_equalIn_struct w m t xs ys (by rw [hfo]; exact hu) hfl.1, hfo]
    subst hm
    exact eqFs_run n xs ys fs.toList 0 _ _ b rfl rfl hb
  · rename_i hu
    split at h
    case h_2 => exact h.elim
    unfold INIL at h
    split at h
    · exact ⟨_, by simp [Op.equalIn, run_und hu], h⟩
    · exact ⟨_, by simp [Op.equalIn, run_und hu], h⟩
    · exact h.elim
  · exact h.elim
theorem eqK_run {t : TypeId} {x y : Value} {q : Bool → Prop} (h : eqK P t x y q) : ∃ b, (Op.equal t x y).run P w = .ok b w ∧ q b := eqK_runN 9998 h

theorem eqGuard_flat {op : BinOp} {t : TypeId} {x y : Operand} {xs ys : Array Value} (h : flatT P t = true) : (eqGuard op t x y (.agg xs) (.agg ys)).run P w = .ok () w := by
  simp only [flatT, Bool.and_eq_true, Bool.not_eq_true'] at h
  unfold eqGuard
  cases op <;> simp [h.2]
theorem eqGuard_nil {op : BinOp} {t : TypeId} {x : Operand} {c : Value} {a : Value} (ha : a = .nilIface ∨ ∃ u v, a = .iface u v) : (eqGuard op t x (.const c) a .nilIface).run P w = .ok () w := by
  unfold eqGuard
  rcases ha with rfl | ⟨u, v, rfl⟩ <;> cases op <;> simp
theorem eqGuard_plain {op : BinOp} {t : TypeId} {x y : Operand} {a b : Value} (h1 : ∀ cs, a ≠ .agg cs) (h2 : a ≠ .nilIface) : (eqGuard op t x y a b).run P w = .ok () w := by
  unfold eqGuard
  cases op <;> simp
  all_goals (cases a <;> cases b <;> simp_all)
end
end Go.Proofs.YtlefdgplobifiaaGreatDoor
