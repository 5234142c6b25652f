/- Maps of numbers by numbers as chunks. -/
import Derived.Test.YtnaeabcaennbjaaRow2
import Derived.MapKept
set_option linter.unusedVariables false
set_option linter.unusedSimpArgs false
namespace Go.Proofs.Ytnaeabcaennbjaa
open Go
def encE (e : MapEntry) : Value × Value := (e.key, e.val)
def encP (p : Int × Int) : Value × Value := (.int .i64 p.1, .int .i64 p.2)
/-- An int. -/
def inI (n : Int) : Prop := -9223372036854775808 ≤ n ∧ n ≤ 9223372036854775807
def keysI (ps : List (Int × Int)) : Prop := ∀ p ∈ ps, inI p.1
structure MpOk (es : Array MapEntry) (clock : Nat) (ps : List (Int × Int)) : Prop where
  enc : es.toList.map encE = ps.map encP
  nodup : (ps.map (·.1)).Nodup
  st : MapKept.Stamped es clock
  keys : keysI ps
def MpL (b : Nat) (ps : List (Int × Int)) : HProp := fun h => ∃ es clock, MpOk es clock ps ∧ Blk b (.map es clock) h
theorem findNow_int (key : Int) : ∀ (es : List MapEntry) (ps : List (Int × Int)) (i : Nat), es.map encE = ps.map encP →
    Instr.findNow (.int .i64) (.int .i64 key) es i = some ((ps.findIdx? (·.1 == key)).bind fun j => ps[j]?.map fun p => (i + j, .int .i64 p.2))
  | [], ps, i, h => by
    have : ps = [] := by simpa using h.symm
    subst this; rfl
  | e :: es, [], i, h => by simp at h
  | e :: es, p :: ps, i, h => by
    simp only [List.map_cons, List.cons.injEq] at h
    obtain ⟨h1, h2⟩ := h
    have hk : e.key = .int .i64 p.1 := congrArg Prod.fst h1
    have hv : e.val = .int .i64 p.2 := congrArg Prod.snd h1
    unfold Instr.findNow
    rw [hk, hv]
    by_cases hp : p.1 = key
    · subst hp
      simp [Instr.sameNow, List.findIdx?_cons]
    · have hp' : ¬ key = p.1 := fun h => hp h.symm
      have ih := findNow_int key es ps (i + 1) h2
      simp only [Instr.sameNow, if_true, beq_eq_false_iff_ne.2 hp', ih, List.findIdx?_cons, beq_eq_false_iff_ne.2 hp, Bool.false_eq_true, if_false]
      cases hf : ps.findIdx? (fun x => x.1 == key) with
      | none => rfl
      | some j => simp [Nat.add_assoc, Nat.add_comm 1]
theorem map_eraseIdx {α β : Type} (f : α → β) : ∀ (l : List α) (j : Nat), (l.eraseIdx j).map f = (l.map f).eraseIdx j
  | [], _ => by simp
  | _ :: _, 0 => rfl
  | x :: l, j + 1 => by simp [map_eraseIdx f l j]
def lk (ps : List (Int × Int)) (key : Int) : Option Int := (ps.findIdx? (·.1 == key)).bind fun j => ps[j]?.map (·.2)
theorem lk_nil (key : Int) : lk [] key = none := rfl
theorem lk_cons (p : Int × Int) (ps : List (Int × Int)) (key : Int) : lk (p :: ps) key = if p.1 = key then some p.2 else lk ps key := by
  unfold lk
  rw [List.findIdx?_cons]
  by_cases h : p.1 = key
  · simp [h]
  · rw [if_neg h, if_neg (by simpa using h)]
    cases hf : ps.findIdx? (fun x => x.1 == key) <;> simp
/-- The map's content as a function. -/
def Mp (b : Nat) (m : Int → Option Int) : HProp := fun h => ∃ ps, MpL b ps h ∧ ∀ key, lk ps key = m key
def putP (key v : Int) : List (Int × Int) → List (Int × Int)
  | [] => [(key, v)]
  | p :: ps => if p.1 = key then (key, v) :: ps else p :: putP key v ps
def delP (key : Int) : List (Int × Int) → List (Int × Int)
  | [] => []
  | p :: ps => if p.1 = key then ps else p :: delP key ps
theorem putP_idx (key v : Int) : ∀ ps : List (Int × Int), putP key v ps = match ps.findIdx? (·.1 == key) with | some j => ps.set j (key, v) | none => ps ++ [(key, v)]
  | [] => rfl
  | p :: ps => by
    unfold putP
    rw [List.findIdx?_cons]
    by_cases h : p.1 = key
    · simp [h]
    · rw [if_neg h, if_neg (by simpa using h), putP_idx key v ps]
      cases hf : ps.findIdx? (fun x => x.1 == key) <;> simp
theorem delP_idx (key : Int) : ∀ ps : List (Int × Int), delP key ps = match ps.findIdx? (·.1 == key) with | some j => ps.eraseIdx j | none => ps
  | [] => rfl
  | p :: ps => by
    unfold delP
    rw [List.findIdx?_cons]
    by_cases h : p.1 = key
    · simp [h]
    · rw [if_neg h, if_neg (by simpa using h), delP_idx key ps]
      cases hf : ps.findIdx? (fun x => x.1 == key) <;> simp
theorem lk_putP (key v k' : Int) : ∀ ps : List (Int × Int), lk (putP key v ps) k' = if k' = key then some v else lk ps k'
  | [] => by simp only [putP, lk_cons, lk_nil, eq_comm]
  | p :: ps => by
    unfold putP
    by_cases h : p.1 = key
    · rw [if_pos h, lk_cons, lk_cons]
      by_cases h2 : k' = key
      · simp [h2]
      · rw [if_neg (fun e => h2 e.symm), if_neg h2, if_neg (by omega)]
    · rw [if_neg h, lk_cons, lk_cons, lk_putP key v k' ps]
      by_cases h2 : p.1 = k'
      · rw [if_pos h2, if_neg (by omega), if_pos h2]
      · rw [if_neg h2, if_neg h2]
theorem lk_none {key : Int} : ∀ {ps : List (Int × Int)}, key ∉ ps.map (·.1) → lk ps key = none
  | [], _ => rfl
  | p :: ps, h => by
    simp only [List.map_cons, List.mem_cons, not_or] at h
    rw [lk_cons, if_neg (fun e => h.1 e.symm)]; exact lk_none h.2
theorem lk_delP (key k' : Int) : ∀ ps : List (Int × Int), (ps.map (·.1)).Nodup → lk (delP key ps) k' = if k' = key then none else lk ps k'
  | [], _ => by simp [delP, lk_nil]
  | p :: ps, hn => by
    simp only [List.map_cons, List.nodup_cons] at hn
    unfold delP
    by_cases h : p.1 = key
    · rw [if_pos h, lk_cons]
      by_cases h2 : k' = key
      · subst h2; subst h; rw [if_pos rfl]; exact lk_none hn.1
      · rw [if_neg h2, if_neg (by omega)]
    · rw [if_neg h, lk_cons, lk_cons, lk_delP key k' ps hn.2]
      by_cases h2 : p.1 = k'
      · rw [if_pos h2, if_neg (by omega), if_pos h2]
      · rw [if_neg h2, if_neg h2]
theorem putP_mem (key v : Int) (a : Int) : ∀ ps : List (Int × Int), a ∈ (putP key v ps).map (·.1) → a = key ∨ a ∈ ps.map (·.1)
  | [], h => by simpa [putP] using h
  | p :: ps, h => by
    unfold putP at h
    split at h
    · simp at h ⊢; rcases h with h | h
      · exact .inl h
      · exact .inr (.inr h)
    · simp only [List.map_cons, List.mem_cons] at h ⊢
      rcases h with h | h
      · exact .inr (.inl h)
      · rcases putP_mem key v a ps h with h | h
        · exact .inl h
        · exact .inr (.inr h)
theorem putP_nodup (key v : Int) : ∀ ps : List (Int × Int), (ps.map (·.1)).Nodup → ((putP key v ps).map (·.1)).Nodup
  | [], _ => by simp [putP]
  | p :: ps, hn => by
    simp only [List.map_cons, List.nodup_cons] at hn
    unfold putP
    by_cases h : p.1 = key
    · rw [if_pos h]; simp only [List.map_cons, List.nodup_cons]; rw [← h]; exact hn
    · rw [if_neg h]; simp only [List.map_cons, List.nodup_cons]
      refine ⟨fun hm => ?_, putP_nodup key v ps hn.2⟩
      rcases putP_mem key v _ ps hm with h2 | h2
      · exact h h2
      · exact hn.1 h2
theorem delP_sub (key : Int) : ∀ ps : List (Int × Int), (delP key ps).Sublist ps
  | [] => .slnil
  | p :: ps => by
    unfold delP
    split
    · exact List.sublist_cons_self _ _
    · exact (delP_sub key ps).cons_cons _
theorem keysI_put {key v : Int} (hin : inI key) : ∀ {ps : List (Int × Int)}, keysI ps → keysI (putP key v ps)
  | [], _ => by intro p hp; simp [putP] at hp; subst hp; exact hin
  | q :: ps, h => by
    have h2 : keysI ps := fun p hp => h p (List.mem_cons_of_mem _ hp)
    unfold putP
    split
    · intro p hp
      rcases List.mem_cons.1 hp with rfl | hp
      · exact hin
      · exact h2 p hp
    · intro p hp
      rcases List.mem_cons.1 hp with rfl | hp
      · exact h _ List.mem_cons_self
      · exact keysI_put hin h2 p hp
theorem keysI_del {key : Int} {ps : List (Int × Int)} (h : keysI ps) : keysI (delP key ps) := fun p hp => h p ((delP_sub key ps).subset hp)
theorem fresh_of {key : Int} {es : Array MapEntry} {ps : List (Int × Int)} (h : es.toList.map encE = ps.map encP) (hj : ps.findIdx? (fun x => x.1 == key) = none) : ∀ x ∈ es.toList, x.key ≠ .int .i64 key := by
  intro x hx e
  have h1 : encE x ∈ ps.map encP := h ▸ List.mem_map_of_mem hx
  obtain ⟨p, hp, he⟩ := List.mem_map.1 h1
  have h2 := congrArg Prod.fst he
  simp only [encP, encE, e] at h2
  have h3 : p.1 = key := by cases h2; rfl
  rw [List.findIdx?_eq_none_iff] at hj
  have := hj p hp
  simp [h3] at this
theorem key_at {key : Int} {es : Array MapEntry} {ps : List (Int × Int)} {j : Nat} {e : MapEntry} (h : es.toList.map encE = ps.map encP) (hj : ps.findIdx? (fun x => x.1 == key) = some j) (he : es[j]? = some e) : Value.int .i64 key = e.key := by
  have h1 := congrArg (fun l => l[j]?) h
  simp only [List.getElem?_map, Array.getElem?_toList, he, Option.map_some] at h1
  obtain ⟨hlt, hp, _⟩ := List.findIdx?_eq_some_iff_getElem.1 hj
  rw [List.getElem?_eq_getElem hlt] at h1
  simp only [Option.map_some, Option.some.injEq] at h1
  have h2 := congrArg Prod.fst h1
  simp only [encE, encP] at h2
  rw [h2]
  simp at hp
  rw [hp]
section
variable {w : World} {l r : List HProp} {b : Nat} {m : Int → Option Int} {key v : Int}
theorem Mp.out (h : SatL w (own Mp b m :: r)) : ∃ ps es clock, MpOk es clock ps ∧ (∀ key, lk ps key = m key) ∧ SatL w (own Blk b (.map es clock) :: r) := by
  obtain ⟨x, y, h1, h2, ⟨ps, ⟨es, clock, h3, h5⟩, h6⟩, h7⟩ := h
  exact ⟨ps, es, clock, h3, h6, x, y, h1, h2, h5, h7⟩
theorem Mp.mk {ps : List (Int × Int)} {es : Array MapEntry} {clock : Nat} (h : SatL w (own Blk b (.map es clock) :: r)) (h1 : MpOk es clock ps) (h3 : ∀ key, lk ps key = m key) : SatL w (own Mp b m :: r) :=
  h.mono fun x hx => ⟨ps, ⟨es, clock, h1, hx⟩, h3⟩
theorem Mp.new (h : SatL w (own Blk b (.map #[] 0) :: r)) : SatL w (own Mp b (fun _ => none) :: r) :=
  Mp.mk (ps := []) h ⟨rfl, by simp, MapKept.stamped_empty _, by intro p hp; cases hp⟩ fun _ => rfl
theorem LK_i {k : Value → Bool → World → Prop} (hw : SatL w l) [f : FindO l Mp b m r] (hk : k (.int .i64 ((m key).getD 0)) (m key).isSome w) : LK (some b) (.int .i64) (.int .i64 key) (.int .i64 0) k w := by
  obtain ⟨ps, es, clock, ⟨h1, h2, hst, hki⟩, h3, h4⟩ := Mp.out (hw.find (A := Mp) b)
  refine ⟨(m key).map (.int .i64 ·), ?_, ?_⟩
  · simp only [mapGet, h4.get]
    rw [findNow_int key _ _ 0 h1, ← h3 key]
    simp only [lk]
    cases hf : ps.findIdx? (fun x => x.1 == key) with
    | none => rfl
    | some j => cases hj : ps[j]? <;> simp [hj]
  · cases hm : m key <;> simp [hm] at hk ⊢ <;> exact hk
theorem MU_i {k : World → Prop} (hw : SatL w l) [f : FindO l Mp b m r] (hin : inI key) (hk : ∀ w', SatL w' (own Mp b (fun x => if x = key then some v else m x) :: r) → k w') : MU (some b) (.int .i64) (.int .i64 key) (.int .i64 v) k w := by
  obtain ⟨ps, es, clock, ⟨h1, h2, hst, hki⟩, h3, h4⟩ := Mp.out (hw.find (A := Mp) b)
  have hf := findNow_int key _ _ 0 h1
  have hlen : es.toList.length = ps.length := by have := congrArg List.length h1; simpa using this
  cases hj : ps.findIdx? (fun x => x.1 == key) with
  | none =>
    refine ⟨b, es, clock, _, rfl, h4.get, by unfold mapPut; rw [hf, hj]; rfl, hk _ (Mp.mk (ps := putP key v ps) (h4.put _) ⟨?_, putP_nodup _ _ _ h2, MapKept.stamped_push hst ?_, keysI_put hin hki⟩ fun x => by rw [lk_putP, h3])⟩
    · rw [putP_idx, hj]; simp [h1, encE, encP]
    · exact fresh_of h1 hj
  | some j =>
    have hjl : j < ps.length := by
      have := List.findIdx?_eq_some_iff_findIdx_eq.1 hj
      omega
    refine ⟨b, es, clock, _, rfl, h4.get, by unfold mapPut; rw [hf, hj]; simp only [Option.bind_some, List.getElem?_eq_getElem hjl, Option.map_some, Nat.zero_add], hk _ (Mp.mk (ps := putP key v ps) (h4.put _) ⟨?_, putP_nodup _ _ _ h2, MapKept.stamped_modify hst j (fun e => { e with key := .int .i64 key, val := .int .i64 v }) (fun _ _ => rfl) (fun e _ he => key_at h1 hj he), keysI_put hin hki⟩ fun x => by rw [lk_putP, h3])⟩
    rw [putP_idx, hj]
    simp only
    apply List.ext_getElem?
    intro n
    have h5 := congrArg (fun l => l[n]?) h1
    simp only [List.getElem?_map, Array.getElem?_toList] at h5
    simp only [List.getElem?_map, Array.getElem?_toList, Array.getElem?_modify]
    by_cases hn : j = n
    · subst hn
      rw [List.getElem?_set_self hjl]
      rw [if_pos rfl]
      have : j < es.size := by rw [Array.length_toList] at hlen; omega
      simp [this, encE, encP]
    · rw [if_neg hn, List.getElem?_set_ne hn]; exact h5
theorem MD_i {k : World → Prop} (hw : SatL w l) [f : FindO l Mp b m r] (hk : ∀ w', SatL w' (own Mp b (fun x => if x = key then none else m x) :: r) → k w') : MD (some b) (.int .i64) (.int .i64 key) k w := by
  obtain ⟨ps, es, clock, ⟨h1, h2, hst, hki⟩, h3, h4⟩ := Mp.out (hw.find (A := Mp) b)
  have hf := findNow_int key _ _ 0 h1
  have hlen : es.toList.length = ps.length := by have := congrArg List.length h1; simpa using this
  have hnd : ((delP key ps).map (·.1)).Nodup := ((delP_sub key ps).map _).nodup h2
  right
  cases hj : ps.findIdx? (fun x => x.1 == key) with
  | none =>
    refine ⟨b, es, clock, none, rfl, h4.get, by first | (rw [hf, hj]; done) | (rw [hf, hj]; rfl), hk _ (Mp.mk (ps := delP key ps) (h4.put _) ⟨?_, hnd, hst, keysI_del hki⟩ fun x => by rw [lk_delP key x ps h2, h3])⟩
    rw [delP_idx, hj]; exact h1
  | some j =>
    have hjl : j < ps.length := by
      have := List.findIdx?_eq_some_iff_findIdx_eq.1 hj
      omega
    refine ⟨b, es, clock, some (j, .int .i64 ps[j].2), rfl, h4.get, by rw [hf, hj]; simp only [Option.bind_some, List.getElem?_eq_getElem hjl, Option.map_some, Nat.zero_add], hk _ (Mp.mk (ps := delP key ps) (h4.put _) ⟨?_, hnd, MapKept.stamped_erase hst _, keysI_del hki⟩ fun x => by rw [lk_delP key x ps h2, h3])⟩
    rw [delP_idx, hj]
    simp only [Option.bind_some, List.getElem?_eq_getElem hjl, Option.map_some, Nat.zero_add]
    have : j < es.size := by rw [Array.length_toList] at hlen; omega
    unfold Array.eraseIdxIfInBounds
    rw [dif_pos this, Array.toList_eraseIdx, map_eraseIdx, map_eraseIdx, h1]
end
end Go.Proofs.Ytnaeabcaennbjaa
