/- Each operation's precondition 'denOp' implies what the model's run of it gives: maps, append, copy; the whole. -/
import Derived.Test.YtlefdgplobifiaaGreatDoorDenS
import Derived.Laws.StructEq
namespace Go.Proofs.YtlefdgplobifiaaGreatDoor
open Go

section
variable {P : Program} {k : Value → World → Prop} {w w' : World}

theorem checkKey_plain (n : Nat) {kt : TypeId} {kd : TypeDesc} {key : Value} {b : Bool} (h : P.underlying kt = some kd) (hp : plainKey kd = true) : (Instr.checkKey b (n + 1) kt key).run P w = .ok () w := by
  unfold Instr.checkKey
  simp only [Sem.run_bind, run_und h, Result.andThen_ok]
  cases kd <;> first | rfl | cases hp
theorem findKey_plain {kt : TypeId} {kd : TypeDesc} {key : Value} {es : List MapEntry} {res : Option (Nat × Value)} (h : P.underlying kt = some kd) (hf : Instr.findNow kd key es 0 = some res) : (Instr.findKey kt key es).run P w = .ok res w := by
  simp only [Instr.findKey, Sem.run_bind, run_und h, Result.andThen_ok, hf, Sem.run_pure]
theorem byte_beq {a b : ByteArray} (h : (a == b) = true) : a = b := by
  rw [beq_toListBytes, beq_iff_eq, ByteArray.toList_eq, ByteArray.toList_eq] at h
  exact ByteArray.ext (Array.toList_inj.1 h)
theorem sameNow_bits {kd : TypeDesc} {a b : Value} (n : Nat) (h : Instr.sameNow kd a b = some true) : Instr.sameBits n a b = true ∧ Instr.sameBits n b a = true := by
  unfold Instr.sameNow at h
  split at h
  · split at h
    · rename_i hk; subst hk; simp at h; subst h; simp [Instr.sameBits]
    · cases h
  · simp only [Option.some.injEq] at h; simp only [Instr.sameBits, h, true_and]; rename_i a b; have e : a = b := byte_beq h; subst e; exact h
  · simp at h; subst h; simp [Instr.sameBits]
  · cases h
theorem findNow_at {kd : TypeDesc} {key : Value} : ∀ {es : List MapEntry} {n i : Nat} {v : Value}, Instr.findNow kd key es n = some (some (i, v)) →
    n ≤ i ∧ ∃ e, es[i - n]? = some e ∧ e.val = v ∧ Instr.sameNow kd key e.key = some true
  | [], n, i, v, h => by simp [Instr.findNow] at h
  | e :: es, n, i, v, h => by
    unfold Instr.findNow at h
    split at h
    · rename_i hs
      simp at h
      obtain ⟨rfl, rfl⟩ := h
      exact ⟨Nat.le_refl _, e, by simp, rfl, hs⟩
    · obtain ⟨h1, e', h2, h3⟩ := findNow_at h
      refine ⟨by omega, e', ?_, h3⟩
      rw [show i - n = (i - (n + 1)) + 1 by omega]
      simpa using h2
    · cases h

theorem lookup_run {t kt et : TypeId} {kd : TypeDesc} {i : TypeInfo} {z key : Value} {r : Option Nat} {ok : Bool} {q : Value → Bool → World → Prop} (ht : P.underlying t = some (.map kt et)) (hk : P.underlying kt = some kd)
    (hi : P.info? et = some i) (hz : i.zero = some z) (hp : plainKey kd = true) (h : LK r kd key z q w) :
    ∃ v b, (Instr.lookup t (.map r) key ok).run P w = .ok (if ok then .tuple #[v, .bool b] else v) w ∧ q v b w := by
  obtain ⟨ov, hg, h⟩ := h
  refine ⟨_, _, ?_, h⟩
  unfold Instr.lookup
  simp only [Sem.run_bind, run_und ht, Result.andThen_ok]
  cases r with
  | none =>
    simp only [mapGet, Option.some.injEq] at hg
    subst hg
    simp [checkKey_plain 9999 hk hp, findKey_plain (es := []) hk (by rfl : Instr.findNow kd key [] 0 = some none), run_zero hi hz]
  | some b =>
    simp only [mapGet] at hg
    split at hg
    · rename_i es cl hb
      obtain ⟨res, hr, hov⟩ := Option.map_eq_some_iff.1 hg
      have hgo : (getObj b).run P w = .ok (.map es cl) w := by simp [getObj, Sem.run, hb]
      simp only [Sem.run_bind, hgo, Result.andThen_ok, Sem.run_pure, checkKey_plain 9999 hk hp, findKey_plain hk hr]
      cases res with
      | none => simp only [Option.map_none] at hov; subst hov; simp [run_zero hi hz]
      | some x => obtain ⟨j, v⟩ := x; simp only [Option.map_some] at hov; subst hov; simp
    · cases hg

theorem mapUpdate_run {t kt et : TypeId} {kd : TypeDesc} {key v : Value} {r : Option Nat} {q : World → Prop} (ht : P.underlying t = some (.map kt et)) (hk : P.underlying kt = some kd) (hp : plainKey kd = true) (h : MU r kd key v q w) :
    ∃ w', (Instr.mapUpdate t (.map r) key v).run P w = .ok () w' ∧ q w' := by
  obtain ⟨b, es, cl, o, rfl, hb, hput, h⟩ := h
  refine ⟨_, ?_, h⟩
  have hgo : (getObj b).run P w = .ok (.map es cl) w := by simp [getObj, Sem.run, hb]
  have hso : ∀ o, (setObj b o).run P w = .ok () (w.putObj b o) := fun o => by simp [setObj, Sem.run, hb, World.putObj]
  unfold Instr.mapUpdate
  simp only [Sem.run_bind, run_und ht, Result.andThen_ok, hgo, checkKey_plain 9999 hk hp]
  unfold mapPut at hput
  split at hput
  · rename_i i u hf
    obtain ⟨_, e, he, _, hs⟩ := findNow_at hf
    simp only [Nat.sub_zero] at he
    have he' : es[i]? = some e := by simpa using he
    simp only [Option.some.injEq] at hput
    subst hput
    simp only [findKey_plain hk hf, Result.andThen_ok, Sem.run_bind]
    have hkt : (Instr.keyThatStays (((es[i]?).map (·.key)).getD key) key).run P w = .ok key w := by
      simp only [Instr.keyThatStays, he', Option.map_some, Option.getD_some, (sameNow_bits 10000 hs).2, if_true, Sem.run_pure]
    simp only [hkt, Result.andThen_ok, hso]
  · rename_i hf
    simp only [Option.some.injEq] at hput
    subst hput
    simp only [findKey_plain hk hf, Result.andThen_ok, hso]
  · cases hput

theorem delete_run {t kt et ty : TypeId} {kd : TypeDesc} {key : Value} {r : Option Nat} {q : World → Prop} {ats : Array TypeId} (ha : ats[0]? = some t) (ht : P.underlying t = some (.map kt et)) (hk : P.underlying kt = some kd) (hp : plainKey kd = true) (h : MD r kd key q w) :
    ∃ w', (Builtin.delete_ ats ty #[.map r, key]).run P w = .ok (.tuple #[]) w' ∧ q w' := by
  rcases h with ⟨rfl, h⟩ | ⟨b, es, cl, res, rfl, hb, hf, h⟩
  · refine ⟨w, ?_, h⟩
    unfold Builtin.delete_
    simp [ha, run_und ht, checkKey_plain 9999 hk hp]
  · refine ⟨_, ?_, h⟩
    have hgo : (getObj b).run P w = .ok (.map es cl) w := by simp [getObj, Sem.run, hb]
    have hso : ∀ o, (setObj b o).run P w = .ok () (w.putObj b o) := fun o => by simp [setObj, Sem.run, hb, World.putObj]
    unfold Builtin.delete_
    simp only [ha, List.getElem?_toArray, List.getElem?_cons_zero, List.getElem?_cons_succ, Sem.run_bind, run_und ht, Result.andThen_ok, hgo, checkKey_plain 9999 hk hp, findKey_plain hk hf]
    cases res with
    | none => simp [hso]
    | some x => obtain ⟨i, u⟩ := x; simp [hso]

theorem cellsAt_run (a : Addr) : ∀ (n i : Nat) (vs : List Value) (acc : Array Value), cellsAt w a i n = some vs → (loadCellsFrom a i n acc).run P w = .ok (acc ++ vs.toArray) w
  | 0, i, vs, acc, h => by simp [cellsAt] at h; subst h; simp [loadCellsFrom]
  | n + 1, i, vs, acc, h => by
    unfold cellsAt at h
    split at h
    · rename_i v vs' h1 h2
      simp only [Option.some.injEq] at h
      subst h
      simp only [loadCellsFrom, Sem.run_bind, run_load, h1, Result.andThen_ok]
      rw [cellsAt_run a n (i + 1) vs' (acc.push v) h2]
      simp
    · cases h
theorem firstCells_run {size n : Nat} {s : Sl} {vs : List Value} (h : cellsOfS w s (n * size) = some vs) : (Builtin.firstCells size n (slv s)).run P w = .ok vs.toArray w := by
  unfold cellsOfS at h
  obtain ⟨p, l, c⟩ := s
  cases p with
  | none => simp at h; subst h; simp [Builtin.firstCells]
  | some a =>
    simp only at h
    simp only [Builtin.firstCells, loadCells]
    rw [cellsAt_run a _ 0 vs #[] h]
    simp

theorem cellsAt_heap {w w' : World} (h : w'.heap = w.heap) (a : Addr) : ∀ n i, cellsAt w' a i n = cellsAt w a i n
  | 0, _ => rfl
  | n + 1, i => by
    have hc : w'.cell? (a.add i) = w.cell? (a.add i) := by simp only [World.cell?, h]
    simp only [cellsAt, hc, cellsAt_heap h a n (i + 1)]
theorem cellsOfS_heap {w w' : World} (h : w'.heap = w.heap) {s : Sl} {m : Nat} : cellsOfS w' s m = cellsOfS w s m := by
  unfold cellsOfS; split
  · rfl
  · exact cellsAt_heap h _ _ _
theorem cut_cap (need old t : Nat) (e : TypeId) : need ≤ Question.cut (.appendCap need old e) t := by simp [Question.cut]

theorem app_run {st xt e : TypeId} {xd : TypeDesc} {i : TypeInfo} {z x : Value} {s : Sl} {n : Nat} {new : World → Option (List Value)} {q : Sl → World → Prop} {ty : TypeId} {ats : Array TypeId}
    (h0 : ats[0]? = some st) (h1 : ats[1]? = some xt) (hs : P.underlying st = some (.slice e)) (hx : P.underlying xt = some xd) (hi : P.info? e = some i) (hz : i.zero = some z)
    (hint : (∃ u, xd = .slice u) ∨ xd = .string) (hlen : (Builtin.lenOf x).run P w = .ok n w)
    (hnew : ∀ vs, new w = some vs → (Builtin.firstCells i.size n x).run P w = .ok vs.toArray w) (hnew2 : ∀ w' vs, w'.heap = w.heap → new w = some vs → (Builtin.firstCells i.size n x).run P w' = .ok vs.toArray w')
    (h : APP e i.size i.bytes z.cells s n new q w) : ∃ s' w', (Builtin.append_ ats ty #[slv s, x]).run P w = .ok (slv s') w' ∧ q s' w' := by
  obtain ⟨vs, hvs, h⟩ := h
  obtain ⟨p, l, c⟩ := s
  rcases h with ⟨hle, h⟩ | ⟨hlt, hcap, hb, old, hold, h⟩
  · cases p with
    | none =>
      refine ⟨_, w, ?_, h⟩
      simp only at hle
      unfold Builtin.append_
      simp only [h0, h1, List.getElem?_toArray, List.getElem?_cons_zero, List.getElem?_cons_succ, Sem.run_bind (x := underlying st), Sem.run_bind (x := sizeOf e), run_und hs, Result.andThen_ok, run_sz hi]
      rcases hint with ⟨u, rfl⟩ | rfl
      all_goals
        simp only [Sem.run_bind, run_und hx, Result.andThen_ok, Sem.run_pure, Bool.false_eq_true, if_false, hlen]
        simp only [hle, if_true, Sem.run_bind, Bool.not_false, if_true, hnew vs hvs, Result.andThen_ok, Sem.run_pure]
    | some a =>
      obtain ⟨w1, hst, h⟩ := stAll_run (P := P) _ _ _ _ h
      refine ⟨_, w1, ?_, h⟩
      simp only at hle
      unfold Builtin.append_
      simp only [h0, h1, List.getElem?_toArray, List.getElem?_cons_zero, List.getElem?_cons_succ, Sem.run_bind (x := underlying st), Sem.run_bind (x := sizeOf e), run_und hs, Result.andThen_ok, run_sz hi]
      rcases hint with ⟨u, rfl⟩ | rfl
      all_goals
        simp only [Sem.run_bind, run_und hx, Result.andThen_ok, Sem.run_pure, Bool.false_eq_true, if_false, hlen]
        simp only [hle, if_true, Sem.run_bind, Bool.not_false, if_true, hnew vs hvs, Result.andThen_ok, Sem.run_pure, hst]
  · simp only at hlt hcap hold h
    have hnle : ¬ l + n ≤ c := by omega
    have hfc2 : (Builtin.firstCells i.size l (.slice p l c)).run P w.drew = .ok old.toArray w.drew := firstCells_run (P := P) (w := w.drew) (n := l) (s := (p, l, c)) ((cellsOfS_heap (w := w) (w' := w.drew) rfl).trans hold)
    refine ⟨_, _, ?_, h (Question.cut (.appendCap (l + n) c e) (w.tape w.drawn (.appendCap (l + n) c e))) (cut_cap _ _ _ _)⟩
    have hcap' : ¬ (Builtin.nextslicecap (l + n) c * i.bytes > 2 ^ 48) := by
      have : (2 : Nat) ^ 48 = 281474976710656 := by decide
      omega
    unfold Builtin.append_
    simp only [h0, h1, List.getElem?_toArray, List.getElem?_cons_zero, List.getElem?_cons_succ, Sem.run_bind (x := underlying st), Sem.run_bind (x := sizeOf e), run_und hs, Result.andThen_ok, run_sz hi]
    have hf : Question.forced (.appendCap (l + n) c e) = false := rfl
    rcases hint with ⟨u, rfl⟩ | rfl
    all_goals
      simp only [Sem.run_bind, run_und hx, Result.andThen_ok, Sem.run_pure, Bool.false_eq_true, if_false, hlen]
      simp only [hnle, if_false, Sem.run_bind, Sem.run_ite, run_tinfo hi, Result.andThen_ok, Result.andThen_ite, Sem.run_pure]
      simp only [hb, or_self, and_false, if_false, hcap']
      simp only [run_choose, hf, Bool.false_eq_true, if_false, Result.andThen_ok, run_askRoom, World.drew_eq, hfc2, Bool.not_false, if_true, hnew2 w.drew vs rfl hvs, run_zero hi hz]
      simp [newRow]

theorem cpy_run {dt e : TypeId} {i : TypeInfo} {d s : Sl} {q : Int → World → Prop} {ty : TypeId} {ats : Array TypeId}
    (h0 : ats[0]? = some dt) (hd : P.underlying dt = some (.slice e)) (hi : P.info? e = some i) (h : CPY i.size d s q w) :
    ∃ m w', (Builtin.copy_ ats ty #[slv d, slv s]).run P w = .ok (.int .i64 m) w' ∧ q m w' := by
  obtain ⟨vs, hvs, h⟩ := h
  obtain ⟨p, l, c⟩ := d
  have hfc : (Builtin.firstCells i.size (Nat.min s.2.1 l) (slv s)).run P w = .ok vs.toArray w := firstCells_run (P := P) (n := Nat.min s.2.1 l) (s := s) hvs
  have hlo : (Builtin.lenOf (slv s)).run P w = .ok s.2.1 w := rfl
  cases p with
  | none =>
    refine ⟨_, w, ?_, h⟩
    unfold Builtin.copy_
    simp only [h0, List.getElem?_toArray, List.getElem?_cons_zero, List.getElem?_cons_succ, Sem.run_bind, run_und hd, Result.andThen_ok, hlo, run_sz hi, hfc, Sem.run_pure]
    rfl
  | some a =>
    obtain ⟨w1, hst, h⟩ := stAll_run (P := P) _ _ _ _ h
    refine ⟨_, w1, ?_, h⟩
    unfold Builtin.copy_
    simp only [h0, List.getElem?_toArray, List.getElem?_cons_zero, List.getElem?_cons_succ, Sem.run_bind, run_und hd, Result.andThen_ok, hlo, run_sz hi, hfc, Sem.run_pure, hst]
    rfl

theorem clr_run {dt e : TypeId} {i : TypeInfo} {z : Value} {s : Sl} {q : World → Prop} {ty : TypeId} {ats : Array TypeId}
    (h0 : ats[0]? = some dt) (hd : P.underlying dt = some (.slice e)) (hi : P.info? e = some i) (hz : i.zero = some z) (h : CLR z.cells s q w) :
    ∃ w', (Builtin.clear_ ats ty #[slv s]).run P w = .ok (.tuple #[]) w' ∧ q w' := by
  obtain ⟨p, l, c⟩ := s
  unfold CLR at h
  cases p with
  | none =>
    simp only [ite_self] at h
    refine ⟨w, ?_, h⟩
    unfold Builtin.clear_
    simp [h0, run_und hd]
  | some a =>
    cases l with
    | zero =>
      simp only [if_true] at h
      refine ⟨w, ?_, h⟩
      unfold Builtin.clear_
      simp [h0, run_und hd]
    | succ l =>
      simp only [Nat.add_eq_zero_iff, Nat.succ_ne_self, and_false, if_false] at h
      obtain ⟨w1, hst, h⟩ := stAll_run (P := P) _ _ _ _ h
      refine ⟨w1, ?_, h⟩
      unfold Builtin.clear_
      simp only [h0, List.getElem?_toArray, List.getElem?_cons_zero, Sem.run_bind, run_und hd, Result.andThen_ok, run_zero hi hz]
      simp only [zeroCellsL] at hst
      simp [hst]

theorem sliceB_out {x : Option Value} {d y : Nat} {q : Nat → Prop} (h : sliceB x d y q) : ∃ m, q m ∧ (match x with | none => m = d | some v => ∀ code, (Instr.sliceBound v y code).run P w = .ok m w) := by
  unfold sliceB at h
  split at h
  · exact ⟨d, h, rfl⟩
  · rename_i κ i
    obtain ⟨⟨h1, h2⟩, h⟩ := h
    exact ⟨_, h, fun code => by simp [Instr.sliceBound, asIntOf, h1, h2]⟩
  · exact h.elim
theorem sliceBounds_run {isS : Bool} {lo hi : Option Value} {n c : Nat} {q : Nat → Nat → Prop} (h : sliceB hi n c fun h => sliceB lo 0 h fun l => q l h) :
    ∃ l h, (Instr.sliceBounds isS n c lo hi none).run P w = .ok (l, h, c) w ∧ q l h := by
  obtain ⟨hh, h, hr⟩ := sliceB_out (P := P) (w := w) h
  obtain ⟨l, h, lr⟩ := sliceB_out (P := P) (w := w) h
  refine ⟨l, hh, ?_, h⟩
  unfold Instr.sliceBounds
  cases hi with
  | none =>
    simp only at hr
    subst hr
    cases lo with
    | none => simp only at lr; subst lr; simp
    | some v => simp [lr]
  | some u =>
    cases lo with
    | none => simp only at lr; subst lr; simp [hr]
    | some v => simp [lr, hr]
end
end Go.Proofs.YtlefdgplobifiaaGreatDoor
