/- The timer's table as a chunk. -/
import Derived.Test.YtnaeabcaennbjaaIns
import Derived.Test.YtnaeabcaennbjaaMapI
set_option linter.unusedVariables false
namespace Go.Proofs.Ytnaeabcaennbjaa
open Go
structure OkT (xs : List (Int × Int)) : Prop where
  sorted : SortedT xs
  nodup : (xs.map (·.1)).Nodup
def Tab (b : Nat) (xs : List (Int × Int)) : HProp := fun h => ∃ s bm, OkT xs ∧ sepL [own Blk b (.cells #[slv s, .map (some bm)] 69 (0, 0)), own (Row 2 72) s (encs xs), own Mp bm (lk xs)] h
def delT (key : Int) (xs : List (Int × Int)) : List (Int × Int) := xs.filter (fun x => x.1 != key)
theorem delT_none {key : Int} {xs : List (Int × Int)} (h : key ∉ xs.map (·.1)) : delT key xs = xs := by
  unfold delT
  rw [List.filter_eq_self]
  intro x hx
  simp only [bne_iff_ne, ne_eq]
  intro e
  exact h (List.mem_map.2 ⟨x, hx, e⟩)
theorem del_eq {key t : Int} : ∀ {xs : List (Int × Int)} {i : Nat}, (xs.map (·.1)).Nodup → xs[i]? = some (key, t) → xs.take i ++ xs.drop (i + 1) = delT key xs
  | [], i, _, h => by simp at h
  | x :: xs, 0, hn, h => by
    simp only [List.map_cons, List.nodup_cons] at hn
    simp at h; subst h
    have := delT_none hn.1
    unfold delT at this ⊢
    simp [this]
  | x :: xs, i + 1, hn, h => by
    simp only [List.map_cons, List.nodup_cons] at hn
    have h' : xs[i]? = some (key, t) := by simpa using h
    have ih := del_eq hn.2 h'
    have hx : x.1 ≠ key := fun e => hn.1 (List.mem_map.2 ⟨_, List.mem_of_getElem? h', e.symm⟩)
    unfold delT at ih ⊢
    rw [List.filter_cons, if_pos (by simpa using hx), ← ih]
    simp
theorem lk_some {key v : Int} : ∀ {xs : List (Int × Int)}, lk xs key = some v → (key, v) ∈ xs
  | [], h => by simp [lk_nil] at h
  | x :: xs, h => by
    rw [lk_cons] at h
    split at h
    · rename_i he
      cases h; subst he; exact List.mem_cons_self
    · exact List.mem_cons_of_mem _ (lk_some h)
theorem lk_none_mem {key : Int} : ∀ {xs : List (Int × Int)}, lk xs key = none → key ∉ xs.map (·.1)
  | [], _ => by simp
  | x :: xs, h => by
    rw [lk_cons] at h
    split at h
    · cases h
    · rename_i he
      simp only [List.map_cons, List.mem_cons, not_or]
      exact ⟨fun e => he e.symm, lk_none_mem h⟩
theorem lk_delT (key k' : Int) : ∀ xs : List (Int × Int), lk (delT key xs) k' = if k' = key then none else lk xs k'
  | [] => by simp [delT, lk_nil]
  | x :: xs => by
    have ih := lk_delT key k' xs
    unfold delT at ih ⊢
    rw [List.filter_cons]
    by_cases h : x.1 = key
    · rw [if_neg (by simpa using h), ih, lk_cons]
      by_cases h2 : k' = key
      · simp [h2]
      · rw [if_neg h2, if_neg h2, if_neg (by omega)]
    · rw [if_pos (by simpa using h), lk_cons, lk_cons, ih]
      by_cases h2 : x.1 = k'
      · rw [if_pos h2, if_neg (by omega), if_pos h2]
      · rw [if_neg h2, if_neg h2]
theorem sortedT_pw {xs : List (Int × Int)} : SortedT xs ↔ xs.Pairwise ltT := by
  rw [List.pairwise_iff_getElem]
  constructor
  · intro h i j hi hj hij
    exact h i j _ _ hij (List.getElem?_eq_getElem hi) (List.getElem?_eq_getElem hj)
  · intro h m m' x y hm hx hy
    obtain ⟨h1, rfl⟩ := List.getElem?_eq_some_iff.1 hx
    obtain ⟨h2, rfl⟩ := List.getElem?_eq_some_iff.1 hy
    exact h m m' h1 h2 hm
theorem filter_split {p : Int × Int → Bool} : ∀ {xs : List (Int × Int)} {i : Nat}, (∀ (m : Nat) x, m < i → xs[m]? = some x → p x = true) → (∀ (m : Nat) x, i ≤ m → xs[m]? = some x → p x = false) →
    xs.filter p = xs.take i ∧ xs.filter (fun x => !p x) = xs.drop i
  | [], i, _, _ => by simp
  | x :: xs, 0, _, h => by
    have h1 := h 0 x (Nat.le_refl _) rfl
    have ih := filter_split (p := p) (xs := xs) (i := 0) (fun m y hm => absurd hm (Nat.not_lt_zero _)) (fun m y _ hy => h (m + 1) y (Nat.zero_le _) (by simpa using hy))
    simp [h1] at ih ⊢
    exact ih
  | x :: xs, i + 1, hl, h => by
    have h1 := hl 0 x (Nat.succ_pos _) rfl
    have ih := filter_split (p := p) (xs := xs) (i := i) (fun m y hm hy => hl (m + 1) y (by omega) (by simpa using hy)) (fun m y hm hy => h (m + 1) y (by omega) (by simpa using hy))
    simp [h1, ih.1, ih.2]
def insT (key t : Int) (xs : List (Int × Int)) : List (Int × Int) := xs.filter (fun x => decide (x.2 < t) || (x.2 == t && decide (x.1 < key))) ++ (key, t) :: xs.filter (fun x => !(decide (x.2 < t) || (x.2 == t && decide (x.1 < key))))
theorem ins_eq {key t : Int} {xs : List (Int × Int)} {i : Nat} (hlo : ∀ (m : Nat) x, m < i → xs[m]? = some x → ltT x (key, t)) (hhi : ∀ (m : Nat) x, i ≤ m → xs[m]? = some x → ¬ ltT x (key, t)) :
    xs.take i ++ (key, t) :: xs.drop i = insT key t xs := by
  obtain ⟨h1, h2⟩ := filter_split (p := fun x => decide (x.2 < t) || (x.2 == t && decide (x.1 < key))) (xs := xs) (i := i)
    (fun m x hm hx => by have := hlo m x hm hx; simpa [ltT] using this) (fun m x hm hx => by have := hhi m x hm hx; simpa [ltT] using this)
  unfold insT
  rw [h1, h2]
theorem delT_not_mem {key : Int} {xs : List (Int × Int)} : key ∉ (delT key xs).map (·.1) := by
  simp [delT]
theorem lk_app (k' : Int) : ∀ (xs ys : List (Int × Int)), lk (xs ++ ys) k' = (lk xs k').or (lk ys k')
  | [], ys => by simp [lk_nil]
  | x :: xs, ys => by
    rw [List.cons_append, lk_cons, lk_cons, lk_app k' xs ys]
    split <;> simp
theorem lk_ins {key t k' : Int} {xs : List (Int × Int)} {i : Nat} (hn : key ∉ xs.map (·.1)) : lk (xs.take i ++ (key, t) :: xs.drop i) k' = if k' = key then some t else lk xs k' := by
  have h1 : lk xs k' = (lk (xs.take i) k').or (lk (xs.drop i) k') := by rw [← lk_app, List.take_append_drop]
  rw [lk_app, lk_cons, h1]
  by_cases h : k' = key
  · subst h
    have : lk (xs.take i) k' = none := lk_none fun hm => hn (by
      obtain ⟨x, hx, e⟩ := List.mem_map.1 hm
      exact List.mem_map.2 ⟨x, List.mem_of_mem_take hx, e⟩)
    simp [this]
  · rw [if_neg h, if_neg (fun e => h e.symm)]
theorem okT_ins {key t : Int} {xs : List (Int × Int)} {i : Nat} (ho : OkT xs) (hn : key ∉ xs.map (·.1)) (hlo : ∀ (m : Nat) x, m < i → xs[m]? = some x → ltT x (key, t)) (hhi : ∀ (m : Nat) x, i ≤ m → xs[m]? = some x → ¬ ltT x (key, t)) :
    OkT (xs.take i ++ (key, t) :: xs.drop i) := by
  have hp := sortedT_pw.1 ho.sorted
  rw [← List.take_append_drop i xs] at hp
  obtain ⟨h1, h2, h3⟩ := List.pairwise_append.1 hp
  refine ⟨sortedT_pw.2 (List.pairwise_append.2 ⟨h1, List.pairwise_cons.2 ⟨fun y hy => ?_, h2⟩, fun a ha b hb => ?_⟩), ?_⟩
  · obtain ⟨m, hm⟩ := List.getElem?_of_mem hy
    rw [List.getElem?_drop] at hm
    have h4 := hhi _ y (Nat.le_add_right i m) hm
    have h5 : y.1 ≠ key := fun e => hn (List.mem_map.2 ⟨y, List.mem_of_mem_drop hy, e⟩)
    unfold ltT at h4 ⊢
    simp only at h4 ⊢
    omega
  · rcases List.mem_cons.1 hb with rfl | hb
    · obtain ⟨m, hm⟩ := List.getElem?_of_mem ha
      have hmi : m < i := by
        have := (List.getElem?_eq_some_iff.1 hm).1
        simp at this; omega
      rw [List.getElem?_take_of_lt hmi] at hm
      exact hlo m a hmi hm
    · exact h3 a ha b hb
  · have hn2 := ho.nodup
    rw [← List.take_append_drop i xs, List.map_append] at hn2
    rw [List.map_append, List.map_cons]
    refine (List.perm_middle.nodup_iff).2 (List.nodup_cons.2 ⟨?_, hn2⟩)
    rw [← List.map_append, List.take_append_drop]
    exact hn
section
variable {w : World} {l r : List HProp} {b : Nat} {xs : List (Int × Int)}
theorem Tab.out (h : SatL w (own Tab b xs :: r)) : ∃ s bm, OkT xs ∧ SatL w (own Blk b (.cells #[slv s, .map (some bm)] 69 (0, 0)) :: own (Row 2 72) s (encs xs) :: own Mp bm (lk xs) :: r) := by
  obtain ⟨⟨s, bm⟩, h1, h2⟩ := SatL.open (ι := Sl × Nat) (p := fun _ => OkT xs) (L := fun i => [own Blk b (.cells #[slv i.1, .map (some i.2)] 69 (0, 0)), own (Row 2 72) i.1 (encs xs), own Mp i.2 (lk xs)]) h (fun x ⟨s, bm, h1, h2⟩ => ⟨(s, bm), h1, h2⟩)
  exact ⟨s, bm, h1, h2⟩
theorem Tab.mk {s : Sl} {bm : Nat} (h : SatL w (own Blk b (.cells #[slv s, .map (some bm)] 69 (0, 0)) :: own (Row 2 72) s (encs xs) :: own Mp bm (lk xs) :: r)) (ho : OkT xs) : SatL w (own Tab b xs :: r) :=
  SatL.shut (L := [own Blk b (.cells #[slv s, .map (some bm)] 69 (0, 0)), own (Row 2 72) s (encs xs), own Mp bm (lk xs)]) h fun x hx => ⟨s, bm, ho, hx⟩
variable {k : Value → World → Prop} {key : Int}
theorem at_c (hw : SatL w l) [f : FindO l Tab b xs r] (hk : k (.tuple #[.int .i64 ((lk xs key).getD 0), .bool (lk xs key).isSome]) w) : CALL Try.prog 24 #[.pointer (some ⟨b, 0, none⟩), .int .i64 key] k w := by
  obtain ⟨s, bm, ho, h⟩ := Tab.out (hw.find (A := Tab) b)
  apply f24.call
  unfold f24.b
  refine brF rfl (NN_r ?_)
  rw [Addr.add_mk]
  exact LD_r h (x := some bm) rfl (LK_i h ⟨_, rfl, hk⟩)
theorem at_nil (hk : k (.tuple #[.int .i64 0, .bool false]) w) : CALL Try.prog 24 #[.pointer none, .int .i64 key] k w := by
  apply f24.call
  unfold f24.b
  exact brT rfl hk
theorem stop_c (hw : SatL w l) [f : FindO l Tab b xs r] (hn : xs.length ≤ 100000000) (hk : ∀ w', SatL w' (own Tab b (delT key xs) :: r) → k (.bool (lk xs key).isSome) w') : CALL Try.prog 23 #[.pointer (some ⟨b, 0, none⟩), .int .i64 key] k w := by
  have h0 := hw.find (A := Tab) b
  apply f23.call
  unfold f23.b
  refine at_c h0 ⟨_, _, rfl, ?_⟩
  cases hl : lk xs key with
  | none =>
    refine brT rfl ?_
    rw [hl] at hk
    refine hk w ?_
    rw [delT_none (lk_none_mem hl)]; exact h0
  | some t =>
    rw [hl] at hk
    obtain ⟨s, bm, ho, h⟩ := Tab.out h0
    refine brF rfl (NN_r ?_)
    simp only [Addr.add_mk, Nat.zero_add, Option.getD_some]
    refine LD_r h (x := s) rfl (bin_c h hn ho.sorted fun i bo w1 hi hlo hhi hbo h1 => ⟨_, _, rfl, ?_⟩)
    have hm := lk_some hl
    obtain ⟨j, hj, hje⟩ := List.getElem_of_mem hm
    have hj' : xs[j]? = some (key, t) := by rw [List.getElem?_eq_getElem hj, hje]
    have hij : j = i := by
      rcases Nat.lt_trichotomy j i with h2 | h2 | h2
      · have := hlo j _ h2 hj'; unfold ltT at this; simp only at this; omega
      · exact h2
      · have := ho.sorted i j _ _ h2 (List.getElem?_eq_getElem (by omega)) hj'
        exact absurd this (hhi i _ (Nat.le_refl _) (List.getElem?_eq_getElem (by omega)))
    subst hij
    have hbt : bo = true := hbo.2 hj'
    subst hbt
    refine brT rfl (NN_r ?_)
    simp only [Addr.add_mk, Nat.zero_add]
    have hsl : xs.length = s.2.1 := by
      have := Row.len (h1.drop)
      rw [encs_len] at this; omega
    refine LD_r h1 (x := s) rfl ?_
    rw [show IntKind.wrap .i64 ((j : Int) + 1) = ((j + 1 : Nat) : Int) by rw [w64'] <;> omega]
    refine del_c h1 (by omega) (by omega) (encs_one xs) fun s' w2 hs' h2 => ⟨_, rfl, NN_r ?_⟩
    have h3 := (h2.perm (List.Perm.refl _)).swap
    simp only [Addr.add_mk, Nat.zero_add]
    refine ST_r h2 (by simp) rfl fun w3 h3 => ?_
    unfold f23.J1
    refine NN_r ?_
    simp only [Addr.add_mk, Nat.zero_add]
    refine LD_r h3 (x := some bm) rfl (MD_i h3 fun w4 h4 => hk w4 ?_)
    have e : (encs xs).take (j * 2) ++ (encs xs).drop (j * 2 + 2) = encs (delT key xs) := by
      rw [encs_take, show j * 2 + 2 = (j + 1) * 2 by omega, encs_drop, ← encs_app, del_eq ho.nodup hj']
    rw [e] at h4
    have h5 := h4.perm ((List.Perm.swap _ _ _).trans (List.Perm.cons _ (List.Perm.swap _ _ _)))
    have e2 : (fun x => if x = key then none else lk xs x) = lk (delT key xs) := by funext x; rw [lk_delT]
    rw [e2] at h5
    refine Tab.mk h5 ⟨?_, ?_⟩
    · exact sortedT_pw.2 ((sortedT_pw.1 ho.sorted).filter _)
    · exact (List.filter_sublist.map _).nodup ho.nodup
theorem set_c {t : Int} (hw : SatL w l) [f : FindO l Tab b xs r] (hn : xs.length ≤ 10000000) (hin : inI key) (hk : ∀ w', SatL w' (own Tab b (insT key t (delT key xs)) :: r) → k (.tuple #[]) w') : CALL Try.prog 22 #[.pointer (some ⟨b, 0, none⟩), .int .i64 key, .int .i64 t] k w := by
  apply f22.call
  unfold f22.b
  refine brF rfl (stop_c (hw.find (A := Tab) b) (by omega) fun w1 h1 => ⟨_, rfl, NN_r ?_⟩)
  obtain ⟨s, bm, ho, h⟩ := Tab.out h1
  simp only [Addr.add_mk, Nat.zero_add]
  have hlen : (delT key xs).length ≤ 10000000 := Nat.le_trans (List.length_filter_le _ _) hn
  refine LD_r h (x := s) rfl (bin_c h (by omega) ho.sorted fun i bo w2 hi hlo hhi hbo h2 => ⟨_, _, rfl, NN_r ?_⟩)
  simp only [Addr.add_mk, Nat.zero_add]
  refine LD_r h2 (x := s) rfl (AL_r h2 fun q w3 h3 => ?_)
  have hsl : (delT key xs).length = s.2.1 := by
    have := Row.len (h2.drop)
    rw [encs_len] at this; omega
  refine ins_c h3 (by omega) (by omega) (encs_one _) fun s' w4 hs' h4 => ⟨_, rfl, NN_r ?_⟩
  simp only [Addr.add_mk, Nat.zero_add]
  refine ST_r h4 (by simp) rfl fun w5 h5 => NN_r ?_
  simp only [Addr.add_mk, Nat.zero_add]
  refine LD_r h5 (x := some bm) rfl (MU_i h5 hin fun w6 h6 => hk w6 ?_)
  have e : (encs (delT key xs)).take (i * 2) ++ [Value.int .i64 key, Value.int .i64 t] ++ (encs (delT key xs)).drop (i * 2) = encs (insT key t (delT key xs)) := by
    rw [encs_take, encs_drop, ← ins_eq hlo hhi, encs_app, encs_cons]; simp
  rw [e] at h6
  have h7 := h6.perm ((List.Perm.swap _ _ _).trans (List.Perm.cons _ (List.Perm.swap _ _ _)))
  have hnk : key ∉ (delT key xs).map (·.1) := delT_not_mem
  have e2 : (fun x => if x = key then some t else lk (delT key xs) x) = lk (insT key t (delT key xs)) := by funext x; rw [← ins_eq hlo hhi, lk_ins hnk]
  rw [e2] at h7
  exact Tab.mk h7 (by rw [← ins_eq hlo hhi]; exact okT_ins ho hnk hlo hhi)
end
end Go.Proofs.Ytnaeabcaennbjaa
