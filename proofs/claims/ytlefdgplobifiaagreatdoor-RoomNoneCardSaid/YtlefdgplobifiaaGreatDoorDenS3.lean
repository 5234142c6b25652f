/- The whole of an operation: 'denOp' implies what the model's run of it gives. -/
import Derived.Test.YtlefdgplobifiaaGreatDoorDenS2
import Derived.Laws.MakeOwn
import Derived.Laws.IdiomStrings
import Derived.Laws.BytesArg
namespace Go.Proofs.YtlefdgplobifiaaGreatDoor
open Go

section
variable {P : Program} {k : Value → World → Prop} {w w' : World} {n : Nat}

theorem wrap_same {m : Int} (hm0 : 0 ≤ m) (hm1 : m ≤ 9223372036854775807) : IntKind.i64.wrap m = m := by
  unfold IntKind.wrap IntKind.bits IntKind.signed
  have h1 : m % ((2 : Int) ^ 64) = m := Int.emod_eq_of_lt hm0 (by omega)
  show (if (true && decide (m % (2 : Int) ^ 64 ≥ (2 : Int) ^ (64 - 1))) = true then m % (2 : Int) ^ 64 - (2 : Int) ^ 64 else m % (2 : Int) ^ 64) = m
  rw [h1, if_neg]
  simp
  omega
theorem zeroCells_none (z : Array Value) (h : z.size = 0 ∨ n = 0) : Builtin.zeroCells z n = #[] := by
  unfold Builtin.zeroCells
  rcases h with h | h <;> simp [h]
theorem app_run_make {st xt e : TypeId} {κ : IntKind} {i : TypeInfo} {z : Value} {s : Sl} {m : Int} {q : Sl → World → Prop} {ty : TypeId} {ats : Array TypeId}
    (h0 : ats[0]? = some st) (h1 : ats[1]? = some xt) (hs : P.underlying st = some (.slice e)) (hx : P.underlying xt = some (.int κ)) (hi : P.info? e = some i) (hz : i.zero = some z)
    (hm0 : 0 ≤ m) (hm1 : m ≤ 9223372036854775807) (hmb : m * i.bytes ≤ 281474976710656) (hsz : i.size ≠ 0) (hlm : (s.2.1 : Int) + m ≤ 9223372036854775807)
    (h : APP e i.size i.bytes z.cells s m.toNat (fun _ => some (zeroCellsL z.cells m.toNat)) q w) : ∃ s' w', (Builtin.append_ ats ty #[slv s, .int .i64 m]).run P w = .ok (slv s') w' ∧ q s' w' := by
  obtain ⟨vs, hvs, h⟩ := h
  simp only [Option.some.injEq] at hvs
  obtain ⟨p, l, c⟩ := s
  have hwm := wrap_same hm0 hm1
  have hnn : ¬ m < 0 := by omega
  have hbb : ¬ m * (i.bytes : Int) > 2 ^ 48 := by
    have : (2 : Int) ^ 48 = 281474976710656 := by decide
    omega
  have happ : ∀ w : World, (Sem.run P (if m.toNat * i.size = 0 then pure (#[] : Array Value) else (zeroValue e >>= fun x => pure (Builtin.zeroCells x.cells m.toNat))) w) = .ok vs.toArray w := fun w => by
    by_cases h0 : m.toNat = 0
    · have : vs.toArray = #[] := by rw [← hvs, zeroCellsL, zeroCells_none _ (.inr h0)]
      rw [if_pos (by simp [h0]), this]; rfl
    · rw [if_neg (Nat.mul_ne_zero h0 hsz), Sem.run_bind, run_zero hi hz, ← hvs]
      simp [zeroCellsL]
  have hint : ∀ w : World, (Sem.run P (asInt (.int .i64 m)) w) = .ok m w := fun w => rfl
  rcases h with ⟨hle, h⟩ | ⟨hlt, hcap, hb, old, hold, h⟩
  · simp only at hle
    cases p with
    | none =>
      refine ⟨_, w, ?_, h⟩
      unfold Builtin.append_
      simp only [h0, h1, List.getElem?_toArray, List.getElem?_cons_zero, List.getElem?_cons_succ, Sem.run_bind (x := underlying st), Sem.run_bind (x := sizeOf e), run_und hs, Result.andThen_ok, run_sz hi]
      simp only [Sem.run_bind, run_und hx, Result.andThen_ok, Sem.run_pure, if_true, hint, hwm, hnn, if_false, run_tinfo hi, hbb]
      rw [if_pos hle]
      simp only [Bool.not_true, Bool.false_eq_true, if_false, Sem.run_bind]
      rw [happ w]
      rfl
    | some a =>
      obtain ⟨w1, hst, h⟩ := stAll_run (P := P) _ _ _ _ h
      refine ⟨_, w1, ?_, h⟩
      unfold Builtin.append_
      simp only [h0, h1, List.getElem?_toArray, List.getElem?_cons_zero, List.getElem?_cons_succ, Sem.run_bind (x := underlying st), Sem.run_bind (x := sizeOf e), run_und hs, Result.andThen_ok, run_sz hi]
      simp only [Sem.run_bind, run_und hx, Result.andThen_ok, Sem.run_pure, if_true, hint, hwm, hnn, if_false, run_tinfo hi, hbb]
      rw [if_pos hle]
      simp only [Bool.not_true, Bool.false_eq_true, if_false, Sem.run_bind]
      rw [happ w]
      simp only [Result.andThen_ok, hst, Sem.run_pure]
  · simp only at hlt hcap hold h hlm
    have hnle : ¬ l + m.toNat ≤ c := by omega
    have hfc2 : (Builtin.firstCells i.size l (.slice p l c)).run P w.drew = .ok old.toArray w.drew := firstCells_run (P := P) (w := w.drew) (n := l) (s := (p, l, c)) ((cellsOfS_heap (w := w) (w' := w.drew) rfl).trans hold)
    refine ⟨_, _, ?_, h (Question.cut (.appendCap (l + m.toNat) c e) (w.tape w.drawn (.appendCap (l + m.toNat) c e))) (cut_cap _ _ _ _)⟩
    have hcap' : ¬ (Builtin.nextslicecap (l + m.toNat) c * i.bytes > 2 ^ 48) := by
      have : (2 : Nat) ^ 48 = 281474976710656 := by decide
      omega
    have hmax : ¬ (((l + m.toNat : Nat) : Int) > IntKind.i64.max) := by
      have h4 : IntKind.i64.max = 9223372036854775807 := by decide
      rw [h4]
      omega
    have hf : Question.forced (.appendCap (l + m.toNat) c e) = false := rfl
    unfold Builtin.append_
    simp only [h0, h1, List.getElem?_toArray, List.getElem?_cons_zero, List.getElem?_cons_succ, Sem.run_bind (x := underlying st), Sem.run_bind (x := sizeOf e), run_und hs, Result.andThen_ok, run_sz hi]
    simp only [Sem.run_bind, run_und hx, Result.andThen_ok, Sem.run_pure, if_true, hint, hwm, hnn, if_false, run_tinfo hi, hbb]
    rw [if_neg hnle]
    simp only [Sem.run_bind, run_tinfo hi, Result.andThen_ok, hmax, false_and, if_false, hcap']
    simp only [run_choose, hf, Bool.false_eq_true, if_false, Result.andThen_ok, run_askRoom, World.drew_eq, hfc2, Bool.not_true]
    rw [happ w.drew]
    simp only [Result.andThen_ok, run_zero hi hz, newRow, Sem.run_bind, run_newObj_alloc, Sem.run_pure]
    simp

theorem up_builtin {b : Builtin} {ats : Array TypeId} {ty : TypeId} {consts : Array Bool} {args : List Value} (h : denBuiltin P b ats ty args k w) : Up P k ((builtin b ats ty consts args.toArray).run P w) := by
  unfold denBuiltin at h
  split at h
  · -- len
    rename_i x
    split at h
    case h_2 => exact h.elim
    rename_i t ht
    unfold builtin
    split at h
    · rename_i s hu
      exact up_v (s := Builtin.len_ ats ty _) (by simp [Builtin.len_, ht, run_und hu, goInt]) h
    · rename_i hu
      exact up_v (s := Builtin.len_ ats ty _) (by simp [Builtin.len_, ht, run_und hu, goInt]) h
    · rename_i hu
      exact up_v (s := Builtin.len_ ats ty _) (by simp [Builtin.len_, ht, run_und hu, goInt]) h
    · rename_i r hu
      rcases h with ⟨rfl, h⟩ | ⟨m, es, cl, rfl, hb, h⟩
      · exact up_v (s := Builtin.len_ ats ty _) (by simp [Builtin.len_, ht, run_und hu, goInt]) h
      · have hgo : (getObj m).run P w = .ok (.map es cl) w := by simp [getObj, Sem.run, hb]
        exact up_v (s := Builtin.len_ ats ty _) (by simp [Builtin.len_, ht, run_und hu, goInt, hgo]) h
    · exact h.elim
  · -- cap
    rename_i x
    split at h
    case h_2 => exact h.elim
    rename_i t ht
    unfold builtin
    split at h
    · rename_i hu
      exact up_v (s := Builtin.cap_ ats ty _) (by simp [Builtin.cap_, ht, run_und hu, goInt]) h
    · exact h.elim
  · -- append
    rename_i x y
    split at h
    case h_2 => exact h.elim
    rename_i t u ht hu'
    unfold builtin
    split at h
    · rename_i e e' p n c p' n' c' hs hx
      split at h
      case h_2 => exact h.elim
      rename_i i hi
      split at h
      case h_2 => exact h.elim
      rename_i z hz
      obtain ⟨s', w1, h1, h2⟩ := app_run (P := P) (x := .slice p' n' c') (ty := ty) ht hu' hs hx hi hz (.inl ⟨_, rfl⟩) rfl (fun vs hv => firstCells_run (s := (p', n', c')) hv)
        (fun w' vs he hv => firstCells_run (s := (p', n', c')) ((cellsOfS_heap he).trans hv)) h
      exact up_v h1 h2
    · rename_i e p n c s hs hx
      split at h
      case h_2 => exact h.elim
      rename_i i hi
      split at h
      case h_2 => exact h.elim
      rename_i z hz
      split at h
      case isFalse => exact h.elim
      rename_i h1'
      have hfc : ∀ w', (Builtin.firstCells i.size s.size (.string s)).run P w' = .ok (s.data.toList.map fun b => Value.int .u8 b.toNat).toArray w' := fun w' => by
        simp only [Builtin.firstCells, Sem.run_pure]
        congr 1
        apply Array.ext'
        simp
      obtain ⟨s', w1, h1, h2⟩ := app_run (P := P) (x := .string s) (ty := ty) ht hu' hs hx hi hz (.inr rfl) rfl (fun vs hv => by cases hv; exact hfc w)
        (fun w' vs he hv => by cases hv; exact hfc w') h
      exact up_v h1 h2
    · rename_i e κ p n c κ' m hs hx
      split at h
      case h_2 => exact h.elim
      rename_i i hi
      split at h
      case h_2 => exact h.elim
      rename_i z hz
      obtain ⟨⟨hm0, hm1, rfl, hmb, hsz, hlm⟩, h⟩ := h
      obtain ⟨s', w1, h1, h2⟩ := app_run_make (P := P) (ty := ty) ht hu' hs hx hi hz hm0 hm1 hmb hsz hlm h
      exact up_v h1 h2
    · exact h.elim
  · -- copy
    rename_i x y
    split at h
    case h_2 => exact h.elim
    rename_i t ht
    unfold builtin
    split at h
    · rename_i e p n c p' n' c' hu
      split at h
      case h_2 => exact h.elim
      rename_i i hi
      obtain ⟨m, w1, h1, h2⟩ := cpy_run (P := P) (ty := ty) ht hu hi h
      exact up_v h1 h2
    · exact h.elim
  · -- clear
    rename_i x
    split at h
    case h_2 => exact h.elim
    rename_i t ht
    unfold builtin
    split at h
    · rename_i e p n c hu
      split at h
      case h_2 => exact h.elim
      rename_i i hi
      split at h
      case h_2 => exact h.elim
      rename_i z hz
      obtain ⟨w1, h1, h2⟩ := clr_run (P := P) (ty := ty) ht hu hi hz h
      exact up_v h1 h2
    · exact h.elim
  · -- delete
    rename_i x key
    split at h
    case h_2 => exact h.elim
    rename_i t ht
    unfold builtin
    split at h
    · rename_i kt et r hu
      split at h
      case h_2 => exact h.elim
      rename_i kd hk
      split at h
      case isFalse => exact h.elim
      rename_i hp
      obtain ⟨w1, h1, h2⟩ := delete_run (P := P) (ty := ty) ht hu hk hp h
      exact up_v h1 h2
    · exact h.elim
  · obtain ⟨v, w', h1, h2⟩ := h
    obtain ⟨u, hu⟩ := exCell_out h2
    obtain ⟨rfl, hu⟩ := hu
    unfold builtin
    exact up_v h1 hu
  · obtain ⟨v, w', h1, h2⟩ := h
    obtain ⟨u, hu⟩ := exCell_out h2
    obtain ⟨rfl, hu⟩ := hu
    unfold builtin
    exact up_v h1 hu
  · unfold builtin
    exact up_v (s := Builtin.max_ ats ty _) (by simp [Builtin.max_, Builtin.max2]) h
  · unfold builtin
    exact up_v (s := Builtin.min_ ats ty _) (by simp [Builtin.min_, Builtin.min2]) h
  · exact h.elim

theorem up_CALL {g : FuncId} {args : Array Value} (h : CALL P g args k w) : Up P k ((callFunc g args).run P w) := by
  obtain ⟨⟨h1, h2⟩ | ⟨v, w', h1, h2⟩⟩ := h
  · rw [h1]; exact h2
  · rw [h1]; exact h2
theorem up_DYN {f : Value} {args : Array Value} (h : DYN P f args k w) : Up P k (Sem.run P (do let d ← Deferred.ofValue f args; invoke d.target d.args) w) := by
  obtain ⟨h⟩ := h
  split at h
  · rename_i g first cap
    have e : (first.toList ++ args.toList ++ cap.toList).toArray = first ++ args ++ cap := by apply Array.ext'; simp
    rw [e] at h
    simp only [Deferred.ofValue, Sem.run_bind, Sem.run_pure, Result.andThen_ok, invoke]
    exact up_CALL h
  · rename_i l first cap
    have e : (first.toList ++ args.toList).toArray = first ++ args := by apply Array.ext'; simp
    rw [e] at h
    obtain ⟨rec, h1, h2, h3⟩ := h
    simp only [Deferred.ofValue, Sem.run_bind, Sem.run_pure, Result.andThen_ok, invoke, run_yield h1 h2]
    exact h3
  · exact h.elim

theorem fill_run {t : TypeId} {parts : Array (Nat × Value)} {v : Value} (h : buildV P t parts.toList = some v) : (Instr.build t parts).run P w = .ok v w := by
  unfold buildV at h
  split at h
  case h_2 => cases h
  rename_i i hi
  split at h
  · rename_i z fields hz hu
    split at h
    case h_2 => cases h
    rename_i places hp
    obtain ⟨cells, hc, rfl⟩ := Option.map_eq_some_iff.1 h
    have hm : ∀ (fs : List Field) (ps : List (Nat × Nat)), (fs.mapM fun f => (P.info? f.type).map fun j => (f.offset, j.size)) = some ps →
        (fs.mapM (m := Sem) fun f => do pure (f.offset, ← sizeOf f.type)).run P w = .ok ps w := by
      intro fs
      induction fs with
      | nil => intro ps h; simp at h; subst h; simp
      | cons f fs ih =>
        intro ps h
        simp only [List.mapM_cons] at h
        obtain ⟨a, ha, h⟩ := Option.bind_eq_some_iff.1 h
        obtain ⟨b, hb, h⟩ := Option.bind_eq_some_iff.1 h
        obtain ⟨j, hj, rfl⟩ := Option.map_eq_some_iff.1 ha
        simp at h
        subst h
        simp only [List.mapM_cons, Sem.run_bind, run_sz hj, Result.andThen_ok, Sem.run_pure, ih _ hb]
    have hm2 : (fields.mapM (m := Sem) fun f => do pure (f.offset, ← sizeOf f.type)).run P w = .ok places.toArray w := by
      rw [← Array.toArray_toList (xs := fields), List.mapM_toArray]
      simp only [Sem.run_map, hm _ _ hp, Result.andThen_ok]
    unfold Instr.build
    simp only [Sem.run_bind, run_zero hi hz, Result.andThen_ok, run_und hu, hm2, hc, Sem.run_pure]
  · rename_i z n e hz hu
    split at h
    case h_2 => cases h
    rename_i j hj
    obtain ⟨cells, hc, rfl⟩ := Option.map_eq_some_iff.1 h
    unfold Instr.build
    simp only [Sem.run_bind, run_zero hi hz, Result.andThen_ok, run_und hu, run_sz hj, hc, Sem.run_pure]
  · cases h

theorem buildSlice_run {t e : TypeId} {len : Nat} {parts : Array (Nat × Value)} {c : Array Value} (h : buildSliceC P t len parts.toList = some (e, c)) :
    (Instr.buildSlice t len parts).run P w = .ok (.slice (some ⟨w.heap.size, 0, none⟩) len len) (w.alloc (.cells c e)) := by
  unfold buildSliceC at h
  split at h
  case h_2 => cases h
  rename_i e' hu
  split at h
  case h_2 => cases h
  rename_i j hj
  split at h
  case h_2 => cases h
  rename_i z hz
  split at h
  case isTrue => cases h
  rename_i hle
  obtain ⟨cells, hc, he⟩ := Option.map_eq_some_iff.1 h
  simp only [Prod.mk.injEq] at he
  obtain ⟨rfl, rfl⟩ := he
  have hle' : ¬ len * j.size > 2 ^ 24 := by simpa using hle
  unfold Instr.buildSlice
  simp only [Sem.run_bind, run_und hu, Result.andThen_ok, run_sz hj]
  rw [if_neg hle']
  by_cases h0 : len * j.size = 0
  · simp only [h0, if_true] at hc
    simp only [h0, if_true, Sem.run_bind, Sem.run_pure, Result.andThen_ok, hc, newRow, run_newObj_alloc]
  · simp only [h0, if_false] at hc
    simp only [h0, if_false, Sem.run_bind, Sem.run_pure, Result.andThen_ok, run_zero hj hz, hc, newRow, run_newObj_alloc]

theorem fieldAt_run {s t : TypeId} {f off : Nat} {a : Addr} (h : fieldOff P s f = some (off, t)) : (Instr.fieldAt s (.pointer (some a)) f).run P w = .ok (.pointer (some (a.add off))) w := by
  unfold fieldOff at h
  split at h
  case h_2 => cases h
  rename_i fields hu
  split at h
  case h_2 => cases h
  rename_i fd hf
  split at h
  case h_2 => cases h
  rename_i i hi
  split at h
  case isTrue => cases h
  rename_i hsz
  simp only [Option.some.injEq, Prod.mk.injEq] at h
  obtain ⟨rfl, rfl⟩ := h
  unfold Instr.fieldAt
  simp only [Sem.run_bind, run_und hu, Result.andThen_ok, hf, Instr.sureAddr, Sem.run_pure, fieldPlace, run_sz hi, hsz, if_false]

theorem part_run {t : TypeId} {cs : Array Value} {off : Nat} {q : Value → Prop} (h : partK P t cs.toList off q) : ∃ v, (part t cs off).run P w = .ok v w ∧ q v := by
  unfold partK at h
  split at h
  case h_2 => exact h.elim
  rename_i i d hi hd
  unfold part
  simp only [Sem.run_bind, run_agg t hd, Result.andThen_ok]
  split at h
  · rename_i ha
    obtain ⟨h1, h2⟩ := subK_out h
    refine ⟨_, ?_, h2⟩
    simp only [ha, if_true, Sem.run_bind, run_sz hi, Result.andThen_ok, Sem.run_pure]
    congr 2
    apply Array.ext'
    simp [List.take_drop]
  · rename_i ha
    obtain ⟨v, h1, h2⟩ := nthO_out h
    refine ⟨v, ?_, h2⟩
    have h1' : cs[off]? = some v := by simpa using h1
    simp only [ha, Bool.false_eq_true, if_false, h1', Sem.run_pure]
theorem field_run {s t : TypeId} {f off : Nat} {cs : Array Value} {q : Value → Prop} (h : fieldOff P s f = some (off, t)) (hp : partK P t cs.toList off q) : ∃ v, (Instr.field s (.agg cs) f).run P w = .ok v w ∧ q v := by
  unfold fieldOff at h
  split at h
  case h_2 => cases h
  rename_i fields hu
  split at h
  case h_2 => cases h
  rename_i fd hf
  split at h
  case h_2 => cases h
  rename_i i hi
  split at h
  case isTrue => cases h
  simp only [Option.some.injEq, Prod.mk.injEq] at h
  obtain ⟨rfl, rfl⟩ := h
  obtain ⟨v, h1, h2⟩ := part_run (w := w) hp
  refine ⟨v, ?_, h2⟩
  unfold Instr.field
  simp only [Sem.run_bind, run_und hu, Result.andThen_ok, hf, asAgg, Sem.run_pure, h1]

theorem binK_shape {op : BinOp} {x y : Value} {q : Value → Prop} (h : binK op x y q) : (∃ κ a κ' b, x = .int κ a ∧ y = .int κ' b) ∨ (∃ a b, x = .string a ∧ y = .string b) := by
  unfold binK at h
  split at h
  all_goals first
    | exact .inl ⟨_, _, _, _, rfl, rfl⟩
    | exact .inr ⟨_, _, rfl, rfl⟩
    | exact h.elim
theorem binK_plain {op : BinOp} {x y : Value} {q : Value → Prop} (h : binK op x y q) : (∀ cs, x ≠ .agg cs) ∧ x ≠ .nilIface := by
  rcases binK_shape h with ⟨κ, a, κ', b, rfl, rfl⟩ | ⟨a, b, rfl, rfl⟩ <;> simp
theorem eqK_shape {t : TypeId} {x y : Value} {q : Bool → Prop} (h : eqK P t x y q) :
    (∃ a b, x = .bool a ∧ y = .bool b) ∨ (∃ a b, x = .pointer a ∧ y = .pointer b) ∨ (∃ a l c b m d, x = .slice a l c ∧ y = .slice b m d) ∨ (∃ a b, x = .map a ∧ y = .map b) ∨ (x = .nilFunc ∧ y = .nilFunc) ∨ (∃ a b c, x = .func a b c ∧ y = .nilFunc) ∨
    (∃ xs ys, x = .agg xs ∧ y = .agg ys ∧ flatT P t = true) ∨ (x = .nilIface ∧ y = .nilIface ∧ ∃ ms, P.underlying t = some (.interface ms)) ∨ (∃ u v, x = .iface u v ∧ y = .nilIface) := by
  unfold eqK at h
  split at h
  all_goals first
    | exact h.elim
    | (split at h
       all_goals first
         | exact h.elim
         | (unfold FNIL at h
            split at h
            all_goals first
              | exact h.elim
              | simp)
         | (split at h
            · rename_i hf; simp [hf]
            · exact h.elim)
         | (unfold INIL at h
            split at h
            all_goals first
              | exact h.elim
              | (simp; done)
              | (simp; exact ⟨_, by assumption⟩))
         | simp)
theorem eqK_guard {op : BinOp} {t : TypeId} {xo yo : Operand} {x y : Value} {q : Bool → Prop} (h : eqK P t x y q) (hy : (∃ c, yo = .const c) ∨ ∀ ms, P.underlying t ≠ some (.interface ms)) : (eqGuard op t xo yo x y).run P w = .ok () w := by
  rcases eqK_shape h with ⟨a, b, rfl, rfl⟩ | ⟨a, b, rfl, rfl⟩ | ⟨a, l, c, b, m, d, rfl, rfl⟩ | ⟨a, b, rfl, rfl⟩ | ⟨rfl, rfl⟩ | ⟨a, b, c, rfl, rfl⟩ | ⟨a, b, rfl, rfl, hf⟩ | ⟨rfl, rfl, ms, hu⟩ | ⟨a, b, rfl, rfl⟩
  case inr.inr.inr.inr.inr.inr.inl => exact eqGuard_flat hf
  case inr.inr.inr.inr.inr.inr.inr.inl =>
    rcases hy with ⟨c, rfl⟩ | hy
    · exact eqGuard_nil (.inl rfl)
    · exact (hy ms hu).elim
  all_goals exact eqGuard_plain (by simp) (by simp)
theorem eqK_bin {t : TypeId} {x y : Value} {q : Bool → Prop} (h : eqK P t x y q) : ∃ b, (binOp .eql t x y).run P w = .ok (.bool b) w ∧ q b := by
  obtain ⟨b, h1, h2⟩ := eqK_run (P := P) (w := w) h
  refine ⟨b, ?_, h2⟩
  rcases eqK_shape h with ⟨a, b, rfl, rfl⟩ | ⟨a, b, rfl, rfl⟩ | ⟨a, l, c, b, m, d, rfl, rfl⟩ | ⟨a, b, rfl, rfl⟩ | ⟨rfl, rfl⟩ | ⟨a, b, c, rfl, rfl⟩ | ⟨a, b, rfl, rfl, hf⟩ | ⟨rfl, rfl, ms, hu⟩ | ⟨a, b, rfl, rfl⟩ <;>
    simp only [binOp, Sem.run_bind, h1, Result.andThen_ok, Sem.run_pure]
theorem eqK_bin' {t : TypeId} {x y : Value} {q : Bool → Prop} (h : eqK P t x y q) : ∃ b, (binOp .neq t x y).run P w = .ok (.bool (!b)) w ∧ q b := by
  obtain ⟨b, h1, h2⟩ := eqK_run (P := P) (w := w) h
  refine ⟨b, ?_, h2⟩
  rcases eqK_shape h with ⟨a, b, rfl, rfl⟩ | ⟨a, b, rfl, rfl⟩ | ⟨a, l, c, b, m, d, rfl, rfl⟩ | ⟨a, b, rfl, rfl⟩ | ⟨rfl, rfl⟩ | ⟨a, b, c, rfl, rfl⟩ | ⟨a, b, rfl, rfl, hf⟩ | ⟨rfl, rfl, ms, hu⟩ | ⟨a, b, rfl, rfl⟩ <;>
    simp only [binOp, Sem.run_bind, h1, Result.andThen_ok, Sem.run_pure]
theorem u8T_und {t : TypeId} (h : u8T P t = true) : P.underlying t = some (.int .u8) := by
  unfold u8T at h; split at h
  · assumption
  · cases h
theorem cellsAt_cell {a : Addr} : ∀ (n i : Nat) (l : List Value), cellsAt w a i n = some l → ∀ j v, l[j]? = some v → w.cell? (a.add (i + j)) = some v
  | 0, i, l, h, j, v, hj => by simp [cellsAt] at h; subst h; simp at hj
  | n + 1, i, l, h, j, v, hj => by
    unfold cellsAt at h
    split at h
    case h_2 => cases h
    rename_i v' vs h1 h2
    simp only [Option.some.injEq] at h
    subst h
    cases j with
    | zero => simp at hj; subst hj; exact h1
    | succ j =>
      have := cellsAt_cell n (i + 1) vs h2 j v (by simpa using hj)
      rw [show i + (j + 1) = i + 1 + j by omega]; exact this
theorem B2S_run {src dst e : TypeId} {s : Sl} {q : ByteArray → World → Prop} (hs : P.underlying src = some (.slice e)) (hd : P.underlying dst = some .string) (he : P.underlying e = some (.int .u8)) (h : B2S s q w) :
    ∃ b, (convert src dst (slv s)).run P w = .ok (.string b) w ∧ q b w := by
  obtain ⟨l, h1, h2, h3⟩ := h
  obtain ⟨p, n, c⟩ := s
  refine ⟨_, ?_, h3⟩
  simp only at h1 h2
  subst h1
  cases p with
  | none =>
    simp only [cellsOfS, Option.some.injEq] at h2
    have : l = [] := by cases l <;> simp_all
    subst this
    exact run_convert_bytes_nil w src e hs he _ _ dst hd
  | some a =>
    refine run_convert_bytes_back w src dst e a c l hs he hd fun j hj => ?_
    have := cellsAt_cell _ 0 _ (by simpa [cellsOfS] using h2) j (.int .u8 (l[j].toNat : Int)) (by simp [List.getElem?_eq_getElem hj])
    simpa using this
theorem S2B_run {src dst e : TypeId} {s : ByteArray} {q : Sl → World → Prop} (hs : P.underlying src = some .string) (hd : P.underlying dst = some (.slice e)) (he : P.underlying e = some (.int .u8)) (h : S2B e s q w) :
    ∃ sl w', (convert src dst (.string s)).run P w = .ok (slv sl) w' ∧ q sl w' := by
  have hge : s.size ≤ grownCap w s.size 0 e := by unfold grownCap; exact cut_cap _ _ _ _
  have h1 := h _ hge
  refine ⟨_, _, ?_, h1⟩
  rw [run_bytes_of_string w src dst e s hs hd he]
  have hz : (bytesRow s (grownCap w s.size 0 e)).size = grownCap w s.size 0 e := by
    have : s.data.size = s.size := rfl
    simp [bytesRow, this]; omega
  rw [hz]
  rfl
theorem MKS_run {src e : TypeId} {a : Addr} {n c : Nat} {q : World → Prop} (hs : P.underlying src = some (.slice e)) (he : P.underlying e = some (.int .u8)) (h : MKS a q w) :
    ∃ w', (convert src src (.slice (some a) n c)).run P w = .ok (.slice (some a) n c) w' ∧ q w' := by
  obtain ⟨e', m, h1, h2⟩ := h
  refine ⟨_, ?_, h2⟩
  simp [convert, run_und hs, run_und he, markStringish, h1]

theorem denOp_up {o : Oper} {ac : Act} (h : denOp P o ac k w) : Up P k ((execOp ac.eval o).run P w) := by
  unfold denOp at h
  simp only [aggK_eq, litT_eq, evL_eq, zip12, evA_eq, Array.toArray_toList] at h
  unfold execOp
  split at h
  · rename_i x ho; rw [ho]; exact h
  · rename_i x ho; rw [ho]; exact h
  · rename_i c a b ho
    rw [ho]
    split at h
    · rename_i t hc
      simp only [hc, asBool, Sem.run_bind, Sem.run_pure, Result.andThen_ok]

      cases t <;> exact h
    · exact h.elim
  · rename_i t ho
    rw [ho]
    split at h
    case h_2 => exact h.elim
    rename_i i hi
    split at h
    case h_2 => exact h.elim
    rename_i z hz
    exact up_v (s := Instr.alloc t true (.tuple #[])) (by simp only [Instr.alloc, Sem.run_bind, run_zero hi hz, Result.andThen_ok, newVar, newRow, run_newObj_alloc, Sem.run_pure]) h
  · rename_i t x ho
    rw [ho]
    exact up_v (s := Instr.box t (ac.eval x)) (by simp only [Instr.box, Sem.run_bind, newVar, newRow, run_newObj_alloc, Result.andThen_ok, Sem.run_pure]) h
  · rename_i t parts ho
    rw [ho]
    split at h
    case h_2 => exact h.elim
    rename_i v hv
    exact up_v (s := Instr.build t _) (fill_run (by simpa using hv)) h
  · rename_i t len parts ho
    rw [ho]
    split at h
    case h_2 => exact h.elim
    rename_i e c hv
    exact up_v (s := Instr.buildSlice t len _) (buildSlice_run (e := e) (c := c) (by simpa using hv)) h
  · rename_i t a ho
    rw [ho]
    split at h
    case h_2 => exact h.elim
    rename_i p hp
    obtain ⟨v, h1, h2⟩ := ldV_run h
    exact up_v (s := Instr.loadAt t (ac.eval a)) (by simp only [Instr.loadAt, hp, Instr.sureAddr, Sem.run_bind, Sem.run_pure, Result.andThen_ok, h1]) h2
  · rename_i t a x ho
    rw [ho]
    split at h
    case h_2 => exact h.elim
    rename_i p hp
    obtain ⟨w1, h1, h2⟩ := stV_run h
    exact up_u (s := Instr.storeAt t (ac.eval a) (ac.eval x)) (by simp only [Instr.storeAt, hp, Instr.sureAddr, Sem.run_bind, Sem.run_pure, Result.andThen_ok, h1]) h2
  · rename_i x ho
    rw [ho]
    split at h
    case h_2 => exact h.elim
    rename_i p hp
    simp only [hp]
    unfold NN at h
    split at h
    · exact h
    · exact h.elim
  · rename_i op t x y yt ho
    rw [ho]
    split at h
    · obtain ⟨v, h1, h2⟩ := binK_run (P := P) (w := w) (t := t) (binK_shape h) h
      refine up_v (s := do eqGuard _ t x y (ac.eval x) (ac.eval y); binOp _ t (ac.eval x) (ac.eval y)) ?_ h2
      rw [Sem.run_bind, eqGuard_plain (binK_plain h).1 (binK_plain h).2]
      exact h1
    · obtain ⟨v, h1, h2⟩ := binK_run (P := P) (w := w) (t := t) (binK_shape h) h
      refine up_v (s := do eqGuard _ t x y (ac.eval x) (ac.eval y); binOp _ t (ac.eval x) (ac.eval y)) ?_ h2
      rw [Sem.run_bind, eqGuard_plain (binK_plain h).1 (binK_plain h).2]
      exact h1
    · split at h
      case h_2 => exact h.elim
      rename_i cst
      split at h
      case h_3 => exact h.elim
      · obtain ⟨b, h1, h2⟩ := eqK_bin h
        refine up_v (s := do eqGuard _ t x _ (ac.eval x) _; binOp _ t (ac.eval x) _) ?_ h2
        rw [Sem.run_bind, eqK_guard h (.inl ⟨_, rfl⟩)]
        exact h1
      · obtain ⟨b, h1, h2⟩ := eqK_bin' h
        refine up_v (s := do eqGuard _ t x _ (ac.eval x) _; binOp _ t (ac.eval x) _) ?_ h2
        rw [Sem.run_bind, eqK_guard h (.inl ⟨_, rfl⟩)]
        exact h1
    · rename_i hni
      split at h
      case h_3 => exact h.elim
      · obtain ⟨b, h1, h2⟩ := eqK_bin h
        refine up_v (s := do eqGuard _ t x y (ac.eval x) (ac.eval y); binOp _ t (ac.eval x) (ac.eval y)) ?_ h2
        rw [Sem.run_bind, eqK_guard h (.inr hni)]
        exact h1
      · obtain ⟨b, h1, h2⟩ := eqK_bin' h
        refine up_v (s := do eqGuard _ t x y (ac.eval x) (ac.eval y); binOp _ t (ac.eval x) (ac.eval y)) ?_ h2
        rw [Sem.run_bind, eqK_guard h (.inr hni)]
        exact h1
  · rename_i op t x ho
    rw [ho]
    split at h
    · rename_i b hx
      exact up_v (s := Op.unary .not (ac.eval x)) (by simp [hx, Op.unary]) h
    · rename_i κ n hx
      exact up_v (s := Op.unary .neg (ac.eval x)) (by simp [hx, Op.unary, Op.intArith]) h
    · exact h.elim
  · rename_i src dst x ho
    rw [ho]
    split at h
    · rename_i d κ κ' n hs hd hx
      refine up_v (s := convert src dst (ac.eval x)) ?_ h
      unfold convert
      simp only [Sem.run_bind, run_und hs, run_und hd, Result.andThen_ok, hx]
      cases d <;> simp [Conv.intToInt]
    · rename_i d s hs hd hx
      refine up_v (s := convert src dst (ac.eval x)) ?_ h
      unfold convert
      simp only [Sem.run_bind, run_und hs, run_und hd, Result.andThen_ok, hx]
      cases d <;> simp
    · rename_i κ κ' n hs hd hx
      refine up_v (s := convert src dst (ac.eval x)) ?_ h
      unfold convert
      simp only [Sem.run_bind, run_und hs, run_und hd, Result.andThen_ok, hx, Conv.intToString, Sem.run_pure]
    · rename_i e p n c hs hd hx
      split at h
      case isFalse => exact h.elim
      rename_i he
      obtain ⟨b, h1, h2⟩ := B2S_run (P := P) (s := (p, n, c)) hs hd (u8T_und he) h
      exact up_v (s := convert src dst (ac.eval x)) (by rw [hx]; exact h1) h2
    · rename_i e s hs hd hx
      split at h
      case isFalse => exact h.elim
      rename_i he
      obtain ⟨b, w1, h1, h2⟩ := S2B_run (P := P) hs hd (u8T_und he) h
      exact up_v (s := convert src dst (ac.eval x)) (by rw [hx]; exact h1) h2
    · rename_i e p hs hd hx
      obtain ⟨v, w', h1, h2⟩ := h
      obtain ⟨u, hu⟩ := exCell_out h2
      obtain ⟨rfl, hu⟩ := hu
      exact up_v (s := convert src dst (ac.eval x)) (by rw [hx]; exact h1) hu
    · rename_i e p hs hd hx
      obtain ⟨v, w', h1, h2⟩ := h
      obtain ⟨u, hu⟩ := exCell_out h2
      obtain ⟨rfl, hu⟩ := hu
      exact up_v (s := convert src dst (ac.eval x)) (by rw [hx]; exact h1) hu
    · rename_i e' e a n c hs hd hx
      split at h
      case isFalse => exact h.elim
      rename_i he
      simp only [Bool.and_eq_true, beq_iff_eq] at he
      obtain ⟨rfl, he⟩ := he
      obtain ⟨w1, h1, h2⟩ := MKS_run (P := P) (n := n) (c := c) hd (u8T_und he) h
      exact up_v (s := convert src src (ac.eval x)) (by rw [hx]; exact h1) h2
    · exact h.elim
  · rename_i fn first captured ho
    rw [ho]
    have e1 : (first.toList.map ac.eval).toArray = first.map ac.eval := by apply Array.ext'; simp
    have e2 : (captured.toList.map ac.eval).toArray = captured.map ac.eval := by apply Array.ext'; simp
    rw [e1, e2] at h
    exact up_v (s := Instr.makeFunc fn _ _) (by simp [Instr.makeFunc]) h
  · rename_i t l c ho
    rw [ho]
    split at h
    case h_2 => exact h.elim
    rename_i e κ l' κ' c' hu hl hc
    split at h
    case h_2 => exact h.elim
    rename_i i hi
    split at h
    case h_2 => exact h.elim
    rename_i z hz
    split at h
    case isFalse => exact h.elim
    rename_i hsz
    obtain ⟨⟨h1, h2, h3, h4⟩, h⟩ := h
    refine up_v (s := Instr.makeSlice t (ac.eval l) (ac.eval c)) ?_ h
    rw [hl, hc, run_make w t e i z hu hi hz κ κ' l' c' h1 h2 h4 h3, hsz]
    rfl
  · rename_i t ho
    rw [ho]
    exact up_v (s := Instr.makeMap t _) (by simp only [Instr.makeMap, Option.map_none, Sem.run_bind, Sem.run_pure, Result.andThen_ok, run_newObj_alloc]) h
  · rename_i t x lo hi ho
    rw [ho]
    split at h
    · rename_i s hu hx
      obtain ⟨l, hh, h1, h2⟩ := sliceBounds_run (P := P) (w := w) (isS := false) (c := s.size) (q := fun l h => k (.string (s.extract l h)) w) h
      refine up_v (s := Instr.sliceAt t (ac.eval x) _ _ _) ?_ h2
      simp only [Instr.sliceAt, Instr.slice, Sem.run_bind, run_und hu, Result.andThen_ok, hx, Option.map_none, Option.isSome_none, Bool.false_eq_true, if_false, h1, Sem.run_pure]
    · rename_i e p n c hu hx
      split at h
      case h_2 => exact h.elim
      rename_i i hi'
      obtain ⟨l, hh, h1, h2⟩ := sliceBounds_run (P := P) (w := w) (isS := true) (c := c) (q := fun l h => k (slv (slSub (p, n, c) l h i.size)) w) h
      refine up_v (s := Instr.sliceAt t (ac.eval x) _ _ _) ?_ h2
      simp only [Instr.sliceAt, Instr.slice, Sem.run_bind, run_und hu, Result.andThen_ok, hx, Option.map_none, h1, run_sz hi', Sem.run_pure]
      rfl
    · exact h.elim
  · rename_i t x lo hi mx ho
    rw [ho]
    split at h
    case h_2 => exact h.elim
    rename_i e p n c κ m hu hx hmx
    split at h
    case h_2 => exact h.elim
    rename_i i hi'
    obtain ⟨⟨hm1, hm2⟩, h⟩ := h
    obtain ⟨hh, h, hr⟩ := sliceB_out (P := P) (w := w) h
    obtain ⟨l, h, lr⟩ := sliceB_out (P := P) (w := w) h
    refine up_v (s := Instr.sliceAt t (ac.eval x) _ _ _) ?_ h
    have hbm : ∀ code, (Instr.sliceBound (ac.eval mx) c code).run P w = .ok m.toNat w := fun code => by rw [hmx]; simp [Instr.sliceBound, asIntOf, hm1, hm2]
    have hb : (Instr.sliceBounds true n c (lo.map ac.eval) (some (ac.eval hi)) (some (ac.eval mx))).run P w = .ok (l, hh, m.toNat) w := by
      unfold Instr.sliceBounds
      cases lo with
      | none => simp only [Option.map_none] at lr; subst lr; simp [hbm, hr]
      | some v => simp only [Option.map_some] at lr; simp [hbm, hr, lr]
    simp only [Instr.sliceAt, Instr.slice, Sem.run_bind, run_und hu, Result.andThen_ok, hx, Option.map_some, hb, run_sz hi', Sem.run_pure]
    rfl
  · rename_i s x f ho
    rw [ho]
    split at h
    case h_2 => exact h.elim
    rename_i a hx
    split at h
    case h_2 => exact h.elim
    rename_i off t hf
    exact up_v (s := Instr.fieldAt s (ac.eval x) f) (by rw [hx]; exact fieldAt_run hf) h
  · rename_i s x f ho
    rw [ho]
    split at h
    case h_2 => exact h.elim
    rename_i cs off t hx hf
    obtain ⟨v, h1, h2⟩ := field_run (P := P) (w := w) hf h
    exact up_v (s := Instr.field s (ac.eval x) f) (by rw [hx]; exact h1) h2
  · rename_i t x ix ho
    rw [ho]
    split at h
    case h_3 => exact h.elim
    · rename_i e p n c κ i hu hx hix
      split at h
      case h_2 => exact h.elim
      rename_i j hj
      obtain ⟨a, rfl, h1, h2, h3⟩ := h
      refine up_v (s := Instr.indexAt t (ac.eval x) (ac.eval ix)) ?_ h3
      simp only [Instr.indexAt, hix, asIntOf, Sem.run_bind, Sem.run_pure, Result.andThen_ok, run_und hu, hx, h1, h2, and_self, if_true, run_sz hj]
    · rename_i n e a κ i hu hx hix
      split at h
      case h_2 => exact h.elim
      rename_i j hj
      obtain ⟨⟨h1, h2⟩, h3⟩ := h
      refine up_v (s := Instr.indexAt t (ac.eval x) (ac.eval ix)) ?_ h3
      simp only [Instr.indexAt, hix, asIntOf, Sem.run_bind, Sem.run_pure, Result.andThen_ok, run_und hu, hx, Instr.sureAddr, h1, h2, and_self, if_true, run_sz hj]
  · rename_i t x ix ho
    rw [ho]
    split at h
    case h_2 => exact h.elim
    rename_i s κ i hu hx hix
    obtain ⟨b, h1, h2, h3⟩ := h
    refine up_v (s := Instr.index t (ac.eval x) (ac.eval ix)) ?_ h3
    simp only [Instr.index, hix, asIntOf, Sem.run_bind, Sem.run_pure, Result.andThen_ok, run_und hu, hx, h1, if_true, h2]
  · rename_i t x ix ok ho
    rw [ho]
    split at h
    case h_2 => exact h.elim
    rename_i kt et r hu hx
    split at h
    case h_2 => exact h.elim
    rename_i kd i hk hi
    split at h
    case h_2 => exact h.elim
    rename_i z hz
    split at h
    case isFalse => exact h.elim
    rename_i hp
    obtain ⟨v, b, h1, h2⟩ := lookup_run (ok := ok) hu hk hi hz hp h
    obtain ⟨u, rfl, h2⟩ := exV_out h2
    exact up_v (s := Instr.lookup t (ac.eval x) (ac.eval ix) ok) (by rw [hx]; exact h1) h2
  · rename_i t m key v ho
    rw [ho]
    split at h
    case h_2 => exact h.elim
    rename_i kt et r hu hx
    split at h
    case h_2 => exact h.elim
    rename_i kd hk
    split at h
    case isFalse => exact h.elim
    rename_i hp
    obtain ⟨w1, h1, h2⟩ := mapUpdate_run hu hk hp h
    exact up_u (s := Instr.mapUpdate t (ac.eval m) (ac.eval key) (ac.eval v)) (by rw [hx]; exact h1) h2
  · rename_i t m key v ho
    rw [ho]
    split at h
    case h_2 => exact h.elim
    rename_i kt et r hu hx
    split at h
    case h_2 => exact h.elim
    rename_i kd hk
    split at h
    case isFalse => exact h.elim
    rename_i hp
    obtain ⟨w1, h1, h2⟩ := mapUpdate_run hu hk hp h
    exact up_u (s := Instr.mapUpdate t (ac.eval m) (ac.eval key) (ac.eval v)) (by rw [hx]; exact h1) h2
  · rename_i t i ho
    rw [ho]
    split at h
    case h_2 => exact h.elim
    rename_i vs hx
    obtain ⟨v, hv, h⟩ := nthO_out h
    have hv' : vs[i]? = some v := by simpa using hv
    exact up_v (s := Instr.extract (ac.eval t) i) (by simp only [Instr.extract, hx, hv', Sem.run_pure]) h
  · rename_i c ho
    rw [ho]
    split at h
    · rename_i f hc
      simp only [resolve, hc]
      have e : (c.args.toList.map ac.eval).toArray = c.args.map ac.eval := by apply Array.ext'; simp
      rw [e] at h
      split at h
      · rename_i g
        have := up_DYN (P := P) (w := w) (f := .func (.func g) #[] #[]) (args := c.args.map ac.eval) ⟨by
          show CALL P g ((#[] : Array Value).toList ++ (c.args.map ac.eval).toList ++ (#[] : Array Value).toList).toArray k w
          have e2 : ((#[] : Array Value).toList ++ (c.args.map ac.eval).toList ++ (#[] : Array Value).toList).toArray = c.args.map ac.eval := by simpa using e
          rw [e2]
          exact CALL.mono h fun v w hv => asR_out hv⟩
        exact this
      · exact up_DYN (DYN.mono h fun v w hv => asR_out hv)
    · rename_i b hc
      simp only [resolve, hc, Sem.run_bind, Sem.run_pure, Result.andThen_ok, invoke]
      have := up_builtin (ty := o.type) (consts := c.args.map fun | .const _ => true | _ => false) h
      rwa [← Array.toList_map, Array.toArray_toList] at this
    · exact h.elim
  · exact h.elim
end
end Go.Proofs.YtlefdgplobifiaaGreatDoor
