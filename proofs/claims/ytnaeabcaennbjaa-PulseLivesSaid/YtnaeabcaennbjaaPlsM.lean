/- The program's pulse and the document's: one relation, kept by each act. No memory, no program. -/
import Derived.Test.YtnaeabcaennbjaaRefD
import Derived.Test.YtnaeabcaennbjaaSame
set_option linter.unusedVariables false
set_option linter.unusedSimpArgs false
namespace Go.Proofs.Ytnaeabcaennbjaa
open Go
/-! Look-ups in lists of pairs whose keys differ -/
theorem lk_iff {x v : Int} : ∀ {xs : List (Int × Int)}, (xs.map (·.1)).Nodup → (lk xs x = some v ↔ (x, v) ∈ xs)
  | [], _ => by simp [lk_nil]
  | p :: xs, h => by
    simp only [List.map_cons, List.nodup_cons] at h
    rw [lk_cons]
    by_cases hp : p.1 = x
    · rw [if_pos hp]
      constructor
      · intro e; cases e; subst hp; exact List.mem_cons_self
      · intro hm
        rcases List.mem_cons.1 hm with e | hm
        · rw [← e]
        · exact absurd (List.mem_map.2 ⟨(x, v), hm, hp.symm⟩) h.1
    · rw [if_neg hp, lk_iff h.2, List.mem_cons]
      exact ⟨.inr, fun h => h.resolve_left fun e => hp (by rw [← e])⟩
theorem lk_ext {xs ys : List (Int × Int)} (hx : (xs.map (·.1)).Nodup) (hy : (ys.map (·.1)).Nodup) (h : ∀ x v, (x, v) ∈ xs ↔ (x, v) ∈ ys) (x : Int) : lk xs x = lk ys x := by
  cases e : lk xs x with
  | none =>
    cases e2 : lk ys x with
    | none => rfl
    | some v => have := (lk_iff hx).2 ((h x v).2 ((lk_iff hy).1 e2)); rw [e] at this; cases this
  | some v => exact ((lk_iff hy).2 ((h x v).1 ((lk_iff hx).1 e))).symm
theorem insT_mem {key t : Int} {xs : List (Int × Int)} (y : Int × Int) : y ∈ insT key t xs ↔ y = (key, t) ∨ y ∈ xs := by
  unfold insT
  rw [List.mem_append, List.mem_cons, List.mem_filter, List.mem_filter]
  constructor
  · rintro (⟨h, _⟩ | h | ⟨h, _⟩)
    · exact .inr h
    · exact .inl h
    · exact .inr h
  · rintro (h | h)
    · exact .inr (.inl h)
    · by_cases hp : (decide (y.2 < t) || (y.2 == t && decide (y.1 < key))) = true
      · exact .inl ⟨h, hp⟩
      · exact .inr (.inr ⟨h, by rw [Bool.not_eq_true] at hp; rw [hp]; rfl⟩)
theorem filter_split_perm {α : Type} (p : α → Bool) : ∀ xs : List α, (xs.filter p ++ xs.filter fun x => !p x).Perm xs
  | [] => .refl _
  | x :: xs => by
    have ih := filter_split_perm p xs
    cases hp : p x with
    | true => simp only [List.filter_cons, hp, if_true, Bool.not_true, Bool.false_eq_true, if_false, List.cons_append]; exact ih.cons x
    | false => simp only [List.filter_cons, hp, Bool.not_false, if_true, Bool.false_eq_true, if_false]; exact List.perm_middle.trans (ih.cons x)
theorem insT_nodup {key t : Int} {xs : List (Int × Int)} (hn : (xs.map (·.1)).Nodup) (hk : key ∉ xs.map (·.1)) : ((insT key t xs).map (·.1)).Nodup := by
  have hp : (insT key t xs).Perm ((key, t) :: xs) := by
    unfold insT
    exact List.perm_middle.trans ((filter_split_perm _ xs).cons _)
  exact (hp.map _).nodup_iff.2 (List.nodup_cons.2 ⟨hk, hn⟩)
theorem delT_nodup {key : Int} {xs : List (Int × Int)} (hn : (xs.map (·.1)).Nodup) : ((delT key xs).map (·.1)).Nodup := (List.filter_sublist.map _).nodup hn
theorem lk_insT {key t x : Int} {xs : List (Int × Int)} (hn : (xs.map (·.1)).Nodup) : lk (insT key t (delT key xs)) x = if x = key then some t else lk xs x := by
  have h1 := delT_nodup (key := key) hn
  have h2 := insT_nodup (t := t) h1 delT_not_mem
  by_cases hx : x = key
  · subst hx
    rw [if_pos rfl]
    exact (lk_iff h2).2 ((insT_mem _).2 (.inl rfl))
  · rw [if_neg hx]
    have : lk xs x = lk (delT key xs) x := by rw [lk_delT, if_neg hx]
    rw [this]
    cases e : lk (delT key xs) x with
    | none =>
      cases e2 : lk (insT key t (delT key xs)) x with
      | none => rfl
      | some v =>
        rcases (insT_mem _).1 ((lk_iff h2).1 e2) with h | h
        · cases h; exact absurd rfl hx
        · rw [(lk_iff h1).2 h] at e; cases e
    | some v => exact (lk_iff h2).2 ((insT_mem _).2 (.inr ((lk_iff h1).1 e)))
theorem dKeys_mem {now x : Int} {xs : List (Int × Int)} (hn : (xs.map (·.1)).Nodup) : x ∈ dKeys now xs ↔ ∃ t, lk xs x = some t ∧ t ≤ now := by
  unfold dKeys dueT
  constructor
  · intro h
    obtain ⟨y, hy, rfl⟩ := List.mem_map.1 h
    obtain ⟨h1, h2⟩ := List.mem_filter.1 hy
    exact ⟨y.2, (lk_iff hn).2 h1, by simpa using h2⟩
  · rintro ⟨t, h1, h2⟩
    exact List.mem_map.2 ⟨(x, t), List.mem_filter.2 ⟨(lk_iff hn).1 h1, by simpa using h2⟩, rfl⟩
theorem keepT_nodup {now : Int} {xs : List (Int × Int)} (hn : (xs.map (·.1)).Nodup) : ((keepT now xs).map (·.1)).Nodup := (List.filter_sublist.map _).nodup hn
theorem lk_keepT {now x : Int} {xs : List (Int × Int)} (hn : (xs.map (·.1)).Nodup) : lk (keepT now xs) x = match lk xs x with | some t => if t ≤ now then none else some t | none => none := by
  have h1 := keepT_nodup (now := now) hn
  cases e : lk xs x with
  | none =>
    simp only
    cases e2 : lk (keepT now xs) x with
    | none => rfl
    | some v => rw [(lk_iff hn).2 (List.mem_filter.1 ((lk_iff h1).1 e2)).1] at e; cases e
  | some t =>
    simp only
    by_cases ht : t ≤ now
    · rw [if_pos ht]
      cases e2 : lk (keepT now xs) x with
      | none => rfl
      | some v =>
        obtain ⟨h3, h4⟩ := List.mem_filter.1 ((lk_iff h1).1 e2)
        rw [(lk_iff hn).2 h3] at e; cases e
        simp at h4; omega
    · rw [if_neg ht]
      exact (lk_iff h1).2 (List.mem_filter.2 ⟨(lk_iff hn).1 e, by simpa using ht⟩)
theorem askAfter_nodup {now : Int} {taken : List Int} : ∀ {ks : List Int} {a : List (Int × Int)}, (a.map (·.1)).Nodup → ((askAfter now taken ks a).map (·.1)).Nodup
  | [], a, h => h
  | k :: ks, a, h => by
    show ((askAfter now taken ks (if k ∈ taken then insT k now (delT k a) else a)).map (·.1)).Nodup
    refine askAfter_nodup ?_
    split
    · exact insT_nodup (delT_nodup h) delT_not_mem
    · exact h
theorem lk_askAfter {now x : Int} {taken : List Int} : ∀ {ks : List Int} {a : List (Int × Int)}, (a.map (·.1)).Nodup → lk (askAfter now taken ks a) x = if x ∈ ks ∧ x ∈ taken then some now else lk a x
  | [], a, h => by simp [askAfter]
  | k :: ks, a, h => by
    show lk (askAfter now taken ks (if k ∈ taken then insT k now (delT k a) else a)) x = _
    have hn : ((if k ∈ taken then insT k now (delT k a) else a).map (·.1)).Nodup := by
      split
      · exact insT_nodup (delT_nodup h) delT_not_mem
      · exact h
    rw [lk_askAfter hn]
    by_cases h1 : x ∈ ks ∧ x ∈ taken
    · rw [if_pos h1, if_pos ⟨List.mem_cons_of_mem _ h1.1, h1.2⟩]
    · rw [if_neg h1]
      by_cases hk : k ∈ taken
      · rw [if_pos hk, lk_insT h]
        by_cases hx : x = k
        · subst hx; rw [if_pos rfl, if_pos ⟨List.mem_cons_self, hk⟩]
        · rw [if_neg hx, if_neg (fun h2 => by
            rcases List.mem_cons.1 h2.1 with e | e
            · exact hx e
            · exact h1 ⟨e, h2.2⟩)]
      · rw [if_neg hk, if_neg (fun h2 => by
          rcases List.mem_cons.1 h2.1 with e | e
          · subst e; exact hk h2.2
          · exact h1 ⟨e, h2.2⟩)]
/-! The document's connections by number -/
def fd (cs : List Cn) (x : Int) : Option Cn := cs.find? (·.id == x)
theorem fd_iff {cs : List Cn} {x : Int} {y : Cn} : (cs.map (·.id)).Nodup → (fd cs x = some y ↔ y ∈ cs ∧ y.id = x) := by
  unfold fd
  induction cs with
  | nil => simp
  | cons c cs ih =>
    intro hn
    simp only [List.map_cons, List.nodup_cons] at hn
    rw [List.find?_cons]
    by_cases hc : c.id = x
    · have hb : (c.id == x) = true := by simpa using hc
      rw [hb]
      constructor
      · intro e; cases e; exact ⟨List.mem_cons_self, hc⟩
      · rintro ⟨hm, hy⟩
        rcases List.mem_cons.1 hm with rfl | hm
        · rfl
        · exact absurd (List.mem_map.2 ⟨y, hm, by rw [hy, hc]⟩) hn.1
    · have hb : (c.id == x) = false := by simpa using hc
      rw [hb]
      simp only
      rw [ih hn.2, List.mem_cons]
      exact ⟨fun h => ⟨.inr h.1, h.2⟩, fun h => ⟨h.1.resolve_left fun e => hc (e ▸ h.2), h.2⟩⟩
theorem fd_ext {cs : List Cn} {x : Int} {o : Option Cn} (hn : (cs.map (·.id)).Nodup) (h : ∀ y, o = some y ↔ y ∈ cs ∧ y.id = x) : fd cs x = o := by
  cases e : fd cs x with
  | none =>
    cases o with
    | none => rfl
    | some y => rw [(fd_iff hn).2 ((h y).1 rfl)] at e; cases e
  | some y => exact ((h y).2 ((fd_iff hn).1 e)).symm
theorem atC_get {id : Int} {cs : List Cn} {i : Nat} (h : atC id cs = some i) : ∃ y, cs[i]? = some y ∧ y.id = id := by
  obtain ⟨h1, h2, _⟩ := List.findIdx?_eq_some_iff_getElem.1 h
  exact ⟨_, List.getElem?_eq_getElem h1, by simpa using h2⟩
theorem atC_fd {id : Int} {cs : List Cn} (hn : (cs.map (·.id)).Nodup) : match atC id cs with | some i => ∃ y, cs[i]? = some y ∧ fd cs id = some y | none => fd cs id = none := by
  cases e : atC id cs with
  | none =>
    simp only
    unfold fd
    rw [List.find?_eq_none]
    intro x hx
    have := List.findIdx?_eq_none_iff.1 e x hx
    simpa using this
  | some i =>
    obtain ⟨y, h1, h2⟩ := atC_get e
    exact ⟨y, h1, (fd_iff hn).2 ⟨List.mem_of_getElem? h1, h2⟩⟩
theorem ids_ne {cs : List Cn} {i j : Nat} {x y : Cn} (hn : (cs.map (·.id)).Nodup) (hx : cs[i]? = some x) (hy : cs[j]? = some y) (hij : i ≠ j) : x.id ≠ y.id := by
  obtain ⟨h1, rfl⟩ := List.getElem?_eq_some_iff.1 hx
  obtain ⟨h2, rfl⟩ := List.getElem?_eq_some_iff.1 hy
  rcases Nat.lt_or_gt_of_ne hij with h | h
  · have := List.pairwise_iff_getElem.1 hn i j (by simpa using h1) (by simpa using h2) h
    simpa using this
  · have := List.pairwise_iff_getElem.1 hn j i (by simpa using h2) (by simpa using h1) h
    simpa [eq_comm] using this
theorem set_ids {cs : List Cn} {i : Nat} {x y : Cn} (hx : cs[i]? = some x) (he : y.id = x.id) : (cs.set i y).map (·.id) = cs.map (·.id) := by
  obtain ⟨h1, rfl⟩ := List.getElem?_eq_some_iff.1 hx
  rw [List.map_set, he]
  apply List.ext_getElem?
  intro n
  by_cases hn : i = n
  · subst hn; rw [List.getElem?_set_self (by simpa using h1)]; simp [h1]
  · rw [List.getElem?_set_ne hn]
theorem fd_set {cs : List Cn} {i : Nat} {x y : Cn} (hn : (cs.map (·.id)).Nodup) (hx : cs[i]? = some x) (he : y.id = x.id) (z : Int) : fd (cs.set i y) z = if z = x.id then some y else fd cs z := by
  have hi := (List.getElem?_eq_some_iff.1 hx).1
  have hn2 : ((cs.set i y).map (·.id)).Nodup := by rw [set_ids hx he]; exact hn
  refine fd_ext hn2 fun u => ?_
  by_cases hz : z = x.id
  · rw [if_pos hz]
    constructor
    · intro e; cases e; exact ⟨List.mem_of_getElem? (List.getElem?_set_self hi), by rw [he, hz]⟩
    · rintro ⟨hm, hu⟩
      obtain ⟨j, hj⟩ := List.getElem?_of_mem hm
      by_cases hij : i = j
      · subst hij; rw [List.getElem?_set_self hi] at hj; exact hj
      · rw [List.getElem?_set_ne hij] at hj
        exact absurd (by rw [hu, hz]) (ids_ne hn hx hj hij)
  · rw [if_neg hz, fd_iff hn]
    constructor
    · rintro ⟨hm, hu⟩
      obtain ⟨j, hj⟩ := List.getElem?_of_mem hm
      have hij : i ≠ j := by rintro rfl; rw [hx] at hj; cases hj; exact hz hu.symm
      exact ⟨List.mem_of_getElem? (by rw [List.getElem?_set_ne hij]; exact hj), hu⟩
    · rintro ⟨hm, hu⟩
      obtain ⟨j, hj⟩ := List.getElem?_of_mem hm
      have hij : i ≠ j := by
        rintro rfl
        rw [List.getElem?_set_self hi] at hj
        cases hj
        exact hz (by rw [← hu, he])
      rw [List.getElem?_set_ne hij] at hj
      exact ⟨List.mem_of_getElem? hj, hu⟩
theorem leave_sub {id : Int} {cs : List Cn} : (leaveC id cs).Sublist cs := by
  unfold leaveC; split
  · exact List.eraseIdx_sublist ..
  · exact List.Sublist.refl _
theorem leave_nodup {id : Int} {cs : List Cn} (hn : (cs.map (·.id)).Nodup) : ((leaveC id cs).map (·.id)).Nodup := (leave_sub.map _).nodup hn
theorem leave_mem {id : Int} {cs : List Cn} (hn : (cs.map (·.id)).Nodup) (y : Cn) : y ∈ leaveC id cs ↔ y ∈ cs ∧ y.id ≠ id := by
  unfold leaveC
  cases e : atC id cs with
  | none =>
    simp only
    exact ⟨fun h => ⟨h, fun he => by have := List.findIdx?_eq_none_iff.1 e y h; simp [he] at this⟩, fun h => h.1⟩
  | some i =>
    obtain ⟨x, hx, hxi⟩ := atC_get e
    simp only
    rw [List.mem_eraseIdx_iff_getElem?]
    constructor
    · rintro ⟨j, hij, hj⟩
      exact ⟨List.mem_of_getElem? hj, fun he => ids_ne hn hx hj (Ne.symm hij) (by rw [hxi, he])⟩
    · rintro ⟨hm, hne⟩
      obtain ⟨j, hj⟩ := List.getElem?_of_mem hm
      exact ⟨j, by rintro rfl; rw [hx] at hj; cases hj; exact hne hxi, hj⟩
theorem fd_leave {id : Int} {cs : List Cn} (hn : (cs.map (·.id)).Nodup) (z : Int) : fd (leaveC id cs) z = if z = id then none else fd cs z := by
  refine fd_ext (leave_nodup hn) fun u => ?_
  rw [leave_mem hn]
  by_cases hz : z = id
  · rw [if_pos hz]
    exact ⟨(fun h => by cases h), fun h => absurd (h.2.trans hz) h.1.2⟩
  · rw [if_neg hz, fd_iff hn]
    exact ⟨fun h => ⟨⟨h.1, fun e => hz (h.2.symm.trans e)⟩, h.2⟩, fun h => ⟨h.1.1, h.2⟩⟩
theorem join_nodup {id now : Int} {cs : List Cn} (hn : (cs.map (·.id)).Nodup) : ((joinC id now cs).map (·.id)).Nodup := by
  unfold joinC
  rw [List.map_append, List.nodup_append]
  refine ⟨leave_nodup hn, by simp, fun a ha b hb => ?_⟩
  simp at hb; subst hb
  obtain ⟨y, hy, rfl⟩ := List.mem_map.1 ha
  exact ((leave_mem hn y).1 hy).2
theorem fd_join {id now : Int} {cs : List Cn} (hn : (cs.map (·.id)).Nodup) (z : Int) : fd (joinC id now cs) z = if z = id then some ⟨id, now, false, false⟩ else fd cs z := by
  refine fd_ext (join_nodup hn) fun u => ?_
  unfold joinC
  rw [List.mem_append, leave_mem hn, List.mem_singleton]
  by_cases hz : z = id
  · rw [if_pos hz]
    constructor
    · intro e; cases e; exact ⟨.inr rfl, hz.symm⟩
    · rintro ⟨h | h, hu⟩
      · exact absurd (hu.trans hz) h.2
      · rw [h]
  · rw [if_neg hz, fd_iff hn]
    constructor
    · rintro ⟨h, hu⟩; exact ⟨.inl ⟨h, fun e => hz (hu.symm.trans e)⟩, hu⟩
    · rintro ⟨h | h, hu⟩
      · exact ⟨h.1, hu⟩
      · subst h; exact absurd hu.symm hz
theorem reg_ids {id now : Int} {cs : List Cn} : (regC id now cs).map (·.id) = cs.map (·.id) := by
  unfold regC
  split
  · rename_i i h
    obtain ⟨x, hx, hxi⟩ := atC_get h
    exact set_ids hx hxi.symm
  · rfl
theorem fd_reg {id now : Int} {cs : List Cn} (hn : (cs.map (·.id)).Nodup) (z : Int) : fd (regC id now cs) z = if z = id ∧ (fd cs id).isSome = true then some ⟨id, now, true, false⟩ else fd cs z := by
  have h := atC_fd (id := id) hn
  unfold regC
  cases e : atC id cs with
  | none =>
    rw [e] at h
    simp only at h ⊢
    rw [if_neg (by simp [h])]
  | some i =>
    rw [e] at h
    obtain ⟨y, hy, hf⟩ := h
    have hyi := ((fd_iff hn).1 hf).2
    simp only
    rw [fd_set hn hy (y := ⟨id, now, true, false⟩) hyi.symm, hyi, hf]
    simp
theorem line_eq {id now : Int} {cs : List Cn} (hn : (cs.map (·.id)).Nodup) : lineC id now cs = if ((fd cs id).map (·.inn)).getD false = true then regC id now cs else cs := by
  have h := atC_fd (id := id) hn
  unfold lineC regC
  cases e : atC id cs with
  | none => simp
  | some i =>
    rw [e] at h
    obtain ⟨y, hy, hf⟩ := h
    simp only [hy, hf]
theorem fd_map {cs : List Cn} {f : Cn → Cn} (hf : ∀ y, (f y).id = y.id) (z : Int) : fd (cs.map f) z = (fd cs z).map f := by
  unfold fd
  rw [List.find?_map]
  congr 1
  congr 1
  funext y
  simp [hf]
/-! The relation -/
structure Rel (c : Int × Int × Int) (s : PS) (cs : List Cn) (now : Int) : Prop where
  cfg : s.ping = c.1 ∧ s.grace = c.2.1 ∧ s.reg = c.2.2
  nd : (cs.map (·.id)).Nodup
  bd : ∀ y ∈ cs, 0 ≤ y.t ∧ y.t ≤ now
  last : ∀ x, s.last x = (fd cs x).map (·.t)
  late : ∀ x, lk s.late x = match fd cs x with | some y => if y.inn then none else some (y.t + c.2.2) | none => none
  ask : ∀ x, match fd cs x with | some y => if y.inn = true ∧ y.asked = false then ∃ t, lk s.ask x = some t ∧ (t = y.t + c.1 ∨ (t ≤ now ∧ y.t + c.1 ≤ now)) else lk s.ask x = none | none => lk s.ask x = none
  dead : ∀ x, lk s.dead x = match fd cs x with | some y => if y.inn then some (y.t + c.1 + c.2.1) else none | none => none
structure PS.ok (s : PS) : Prop where
  l : (s.late.map (·.1)).Nodup
  a : (s.ask.map (·.1)).Nodup
  d : (s.dead.map (·.1)).Nodup
structure Cf (c : Int × Int × Int) (now : Int) : Prop where
  c1 : 1 ≤ c.1 ∧ c.1 ≤ 1000000
  c2 : 1 ≤ c.2.1 ∧ c.2.1 ≤ 1000000
  c3 : 1 ≤ c.2.2 ∧ c.2.2 ≤ 1000000
  now : 0 ≤ now ∧ now ≤ 1000000000
section
variable {c : Int × Int × Int} {s : PS} {cs : List Cn} {now id : Int}
theorem Rel.later (h : Rel c s cs now) {now' : Int} (hn : now ≤ now') : Rel c s cs now' := by
  refine ⟨h.cfg, h.nd, fun y hy => ?_, h.last, h.late, fun x => ?_, h.dead⟩
  · have := h.bd y hy; omega
  · have h2 := h.ask x
    cases hf : fd cs x with
    | none => rw [hf] at h2; exact h2
    | some y =>
      rw [hf] at h2
      simp only at h2 ⊢
      by_cases hb : y.inn = true ∧ y.asked = false
      · rw [if_pos hb] at h2 ⊢
        obtain ⟨t, h3, h4⟩ := h2
        exact ⟨t, h3, by omega⟩
      · rw [if_neg hb] at h2 ⊢; exact h2
theorem leave_rel (h : Rel c s cs now) : Rel c (s.leave id) (leaveC id cs) now := by
  refine ⟨h.cfg, leave_nodup h.nd, fun y hy => h.bd y (leave_sub.subset hy), fun x => ?_, fun x => ?_, fun x => ?_, fun x => ?_⟩
  · show (if x = id then none else s.last x) = _
    rw [fd_leave h.nd, h.last]
    split <;> rfl
  · show lk (delT id s.late) x = _
    rw [lk_delT, fd_leave h.nd, h.late]
    by_cases hx : x = id
    · simp [hx]
    · simp only [if_neg hx]
  · have h2 := h.ask x
    have e : lk (s.leave id).ask x = if x = id then none else lk s.ask x := lk_delT ..
    rw [fd_leave h.nd, e]
    by_cases hx : x = id
    · simp [hx]
    · simp only [if_neg hx]; exact h2
  · show lk (delT id s.dead) x = _
    rw [lk_delT, fd_leave h.nd, h.dead]
    by_cases hx : x = id
    · simp [hx]
    · simp only [if_neg hx]
theorem join_rel (h : Rel c s cs now) (hok : s.ok) (hc : Cf c now) : Rel c (s.join id now) (joinC id now cs) now := by
  obtain ⟨e1, e2, e3⟩ := h.cfg
  have hw : IntKind.wrap .i64 (now + s.reg) = now + c.2.2 := by rw [e3]; exact w64' (by have := hc.c3; have := hc.now; omega)
  refine ⟨h.cfg, join_nodup h.nd, fun y hy => ?_, fun x => ?_, fun x => ?_, fun x => ?_, fun x => ?_⟩
  · unfold joinC at hy
    rcases List.mem_append.1 hy with hy | hy
    · exact h.bd y (leave_sub.subset hy)
    · simp at hy; subst hy; have := hc.now; exact ⟨this.1, Int.le_refl _⟩
  · show (if x = id then some now else if x = id then none else s.last x) = _
    rw [fd_join h.nd, h.last]
    by_cases hx : x = id <;> simp [hx]
  · show lk (insT id (IntKind.wrap .i64 (now + s.reg)) (delT id (delT id s.late))) x = _
    rw [lk_insT (delT_nodup hok.l), lk_delT, fd_join h.nd, hw, h.late]
    by_cases hx : x = id
    · simp [hx]
    · simp only [if_neg hx]
  · have h2 := h.ask x
    have e : lk (s.join id now).ask x = if x = id then none else lk s.ask x := lk_delT ..
    rw [fd_join h.nd, e]
    by_cases hx : x = id
    · simp [hx]
    · simp only [if_neg hx]; exact h2
  · show lk (delT id s.dead) x = _
    rw [lk_delT, fd_join h.nd, h.dead]
    by_cases hx : x = id
    · simp [hx]
    · simp only [if_neg hx]
theorem reg_rel (h : Rel c s cs now) (hok : s.ok) (hc : Cf c now) : Rel c (s.register id now) (regC id now cs) now := by
  obtain ⟨e1, e2, e3⟩ := h.cfg
  have hw1 : IntKind.wrap .i64 (now + s.ping) = now + c.1 := by rw [e1]; exact w64' (by have := hc.c1; have := hc.now; omega)
  have hw2 : IntKind.wrap .i64 (now + c.1 + s.grace) = now + c.1 + c.2.1 := by rw [e2]; exact w64' (by have := hc.c1; have := hc.c2; have := hc.now; omega)
  have hs : (s.last id).isSome = (fd cs id).isSome := by rw [h.last]; simp
  unfold PS.register
  by_cases hx0 : (fd cs id).isSome = true
  · rw [if_pos (by rw [hs]; exact hx0), hw1, hw2]
    have hfd : ∀ z, fd (regC id now cs) z = if z = id then some ⟨id, now, true, false⟩ else fd cs z := fun z => by
      rw [fd_reg h.nd]
      by_cases hz : z = id
      · rw [if_pos ⟨hz, hx0⟩, if_pos hz]
      · rw [if_neg (fun h => hz h.1), if_neg hz]
    refine ⟨h.cfg, by rw [reg_ids]; exact h.nd, fun y hy => ?_, fun x => ?_, fun x => ?_, fun x => ?_, fun x => ?_⟩
    · unfold regC at hy
      split at hy
      · rcases List.mem_or_eq_of_mem_set hy with hy | hy
        · exact h.bd y hy
        · subst hy; have := hc.now; exact ⟨this.1, Int.le_refl _⟩
      · exact h.bd y hy
    · show (if x = id then some now else s.last x) = _
      rw [hfd, h.last]
      split <;> rfl
    · show lk (delT id s.late) x = _
      rw [lk_delT, hfd, h.late]
      by_cases hx : x = id
      · simp [hx]
      · simp only [if_neg hx]
    · have h2 := h.ask x
      have e : lk (insT id (now + c.1) (delT id s.ask)) x = if x = id then some (now + c.1) else lk s.ask x := lk_insT hok.a
      rw [hfd]
      show match (if x = id then some (⟨id, now, true, false⟩ : Cn) else fd cs x) with | some y => if y.inn = true ∧ y.asked = false then ∃ t, lk (insT id (now + c.1) (delT id s.ask)) x = some t ∧ (t = y.t + c.1 ∨ (t ≤ now ∧ y.t + c.1 ≤ now)) else lk (insT id (now + c.1) (delT id s.ask)) x = none | none => lk (insT id (now + c.1) (delT id s.ask)) x = none
      rw [e]
      by_cases hx : x = id
      · simp only [if_pos hx]
        exact ⟨_, rfl, .inl rfl⟩
      · simp only [if_neg hx]; exact h2
    · show lk (insT id (now + c.1 + c.2.1) (delT id s.dead)) x = _
      rw [lk_insT hok.d, hfd, h.dead]
      by_cases hx : x = id
      · simp [hx]
      · simp only [if_neg hx]
  · rw [if_neg (by rw [hs]; exact hx0)]
    have hfd : ∀ z, fd (regC id now cs) z = fd cs z := fun z => by
      rw [fd_reg h.nd, if_neg (fun h => hx0 h.2)]
    have he : regC id now cs = cs := by
      have h2 := atC_fd (id := id) h.nd
      unfold regC
      cases e : atC id cs with
      | none => rfl
      | some i =>
        rw [e] at h2
        obtain ⟨y, _, hf⟩ := h2
        rw [hf] at hx0; exact absurd rfl hx0
    rw [he]; exact h
theorem line_rel (h : Rel c s cs now) (hok : s.ok) (hc : Cf c now) : Rel c (s.line id now) (lineC id now cs) now := by
  rw [line_eq h.nd]
  unfold PS.line
  have hd := h.dead id
  cases hf : fd cs id with
  | none =>
    rw [hf] at hd
    simp only at hd
    rw [if_neg (by simp [hd]), if_neg (by simp)]
    exact h
  | some y =>
    rw [hf] at hd
    simp only at hd
    cases hy : y.inn with
    | true =>
      rw [hy] at hd
      rw [if_pos (by simp [hd]), if_pos (by simp [hy])]
      exact reg_rel h hok hc
    | false =>
      rw [hy] at hd
      rw [if_neg (by simp [hd]), if_neg (by simp [hy])]
      exact h
theorem what_spec (h : Rel c s cs now) (hok : s.ok) (hc : Cf c now) (x v : Int) : s.what now x = some v ↔ ∃ y ∈ cs, y.id = x ∧ whatC c now y = v ∧ v ≠ 0 := by
  have e : s.what now x = if x ∈ dKeys now s.dead then some 3 else if x ∈ dKeys now s.ask then some 2 else if x ∈ dKeys now s.late then some 1 else none := by
    unfold PS.what PS.what1
    rw [setAll_eq, setAll_eq, setAll_eq]
  have hfx : (∃ y ∈ cs, y.id = x ∧ whatC c now y = v ∧ v ≠ 0) ↔ ∃ y, fd cs x = some y ∧ whatC c now y = v ∧ v ≠ 0 :=
    ⟨fun ⟨y, hy, h1, h2⟩ => ⟨y, (fd_iff h.nd).2 ⟨hy, h1⟩, h2⟩, fun ⟨y, hf, h2⟩ => ⟨y, ((fd_iff h.nd).1 hf).1, ((fd_iff h.nd).1 hf).2, h2⟩⟩
  rw [e, hfx]
  have hL := h.late x
  have hA := h.ask x
  have hD := h.dead x
  have mL := dKeys_mem (now := now) (x := x) hok.l
  have mA := dKeys_mem (now := now) (x := x) hok.a
  have mD := dKeys_mem (now := now) (x := x) hok.d
  have c1 := hc.c1; have c2 := hc.c2; have c3 := hc.c3
  cases hf : fd cs x with
  | none =>
    rw [hf] at hL hA hD
    simp only at hL hA hD
    rw [hL] at mL; rw [hA] at mA; rw [hD] at mD
    rw [if_neg (fun h => by obtain ⟨_, h, _⟩ := mD.1 h; cases h), if_neg (fun h => by obtain ⟨_, h, _⟩ := mA.1 h; cases h), if_neg (fun h => by obtain ⟨_, h, _⟩ := mL.1 h; cases h)]
    simp
  | some y =>
    rw [hf] at hL hA hD
    simp only at hL hA hD
    have hbd := h.bd y ((fd_iff h.nd).1 hf).1
    have key : ∀ u : Option Int, u = (if whatC c now y = 0 then none else some (whatC c now y)) → (u = some v ↔ ∃ z, some y = some z ∧ whatC c now z = v ∧ v ≠ 0) := by
      rintro u rfl
      constructor
      · intro h1
        split at h1
        · cases h1
        · rename_i h2; cases h1; exact ⟨y, rfl, rfl, h2⟩
      · rintro ⟨z, hz, h1, h2⟩
        cases hz
        rw [if_neg (by rw [h1]; exact h2), h1]
    refine key _ ?_
    unfold whatC
    cases hy : y.inn with
    | true =>
      rw [hy] at hL hA hD
      simp only [if_true] at hL hD
      rw [hL] at mL; rw [hD] at mD
      simp only [if_true]
      have nL : ¬ x ∈ dKeys now s.late := fun h => by obtain ⟨_, h, _⟩ := mL.1 h; cases h
      by_cases hdd : c.1 + c.2.1 ≤ now - y.t
      · rw [if_pos hdd, if_pos (mD.2 ⟨_, rfl, by omega⟩), if_neg (by decide)]
      · rw [if_neg hdd, if_neg (fun h => by obtain ⟨t, h, h2⟩ := mD.1 h; cases h; omega)]
        cases hya : y.asked with
        | true =>
          rw [hya] at hA
          rw [if_neg (by simp)] at hA
          rw [hA] at mA
          rw [if_neg (fun h => by obtain ⟨_, h, _⟩ := mA.1 h; cases h), if_neg nL]
          simp
        | false =>
          rw [hya] at hA
          rw [if_pos ⟨rfl, rfl⟩] at hA
          obtain ⟨t, h1, h2⟩ := hA
          rw [h1] at mA
          by_cases hpp : c.1 ≤ now - y.t
          · rw [if_pos (mA.2 ⟨t, rfl, by omega⟩)]
            simp [hpp]
          · rw [if_neg (fun h => by obtain ⟨u, h, h3⟩ := mA.1 h; cases h; omega), if_neg nL]
            simp [hpp]
    | false =>
      rw [hy] at hL hA hD
      simp only [Bool.false_eq_true, if_false] at hL hD
      rw [if_neg (by simp)] at hA
      rw [hL] at mL; rw [hD] at mD; rw [hA] at mA
      rw [if_neg (fun h => by obtain ⟨_, h, _⟩ := mD.1 h; cases h), if_neg (fun h => by obtain ⟨_, h, _⟩ := mA.1 h; cases h)]
      by_cases hll : c.2.2 ≤ now - y.t
      · rw [if_pos (mL.2 ⟨_, rfl, by omega⟩)]; simp [hll]
      · rw [if_neg (fun h => by obtain ⟨t, h, h2⟩ := mL.1 h; cases h; omega)]; simp [hll]
theorem askC_id (y : Cn) : (askC c now y).id = y.id := by unfold askC; split <;> rfl
theorem askC_t (y : Cn) : (askC c now y).t = y.t := by unfold askC; split <;> rfl
theorem askC_inn (y : Cn) : (askC c now y).inn = y.inn := by unfold askC; split <;> rfl
theorem due_rel (h : Rel c s cs now) (hok : s.ok) (hc : Cf c now) : Rel c (s.due now) (cs.map (askC c now)) now := by
  have c1 := hc.c1; have c2 := hc.c2; have c3 := hc.c3
  refine ⟨h.cfg, ?_, fun y hy => ?_, fun x => ?_, fun x => ?_, fun x => ?_, fun x => ?_⟩
  · have : (cs.map (askC c now)).map (·.id) = cs.map (·.id) := by
      rw [List.map_map]; apply List.map_congr_left; intro y _; exact askC_id y
    rw [this]; exact h.nd
  · obtain ⟨z, hz, rfl⟩ := List.mem_map.1 hy
    rw [askC_t]; exact h.bd z hz
  · show s.last x = _
    rw [fd_map askC_id, h.last]
    cases fd cs x <;> simp [askC_t]
  · show lk s.late x = _
    rw [fd_map askC_id, h.late]
    cases fd cs x <;> simp [askC_t, askC_inn]
  · have mA := dKeys_mem (now := now) (x := x) hok.a
    have mD := dKeys_mem (now := now) (x := x) hok.d
    have e : lk (s.due now).ask x = if x ∈ dKeys now s.dead ∧ x ∈ dKeys now s.ask then some now else match lk s.ask x with | some t => if t ≤ now then none else some t | none => none := by
      show lk (askAfter now (dKeys now s.ask) (dKeys now s.dead) (keepT now s.ask)) x = _
      rw [lk_askAfter (keepT_nodup hok.a), lk_keepT hok.a]
    rw [fd_map askC_id, e]
    have hA := h.ask x
    have hD := h.dead x
    cases hf : fd cs x with
    | none =>
      rw [hf] at hA hD
      simp only at hA hD
      rw [hA] at mA
      simp only [Option.map_none]
      rw [if_neg (fun h => by obtain ⟨_, h, _⟩ := mA.1 h.2; cases h), hA]
    | some y =>
      rw [hf] at hA hD
      simp only at hA hD
      have hbd := h.bd y ((fd_iff h.nd).1 hf).1
      simp only [Option.map_some]
      rw [askC_inn, askC_t]
      cases hy : y.inn with
      | false =>
        rw [hy] at hA
        rw [if_neg (by simp)] at hA
        rw [hA] at mA
        rw [if_neg (by simp), if_neg (fun h => by obtain ⟨_, h, _⟩ := mA.1 h.2; cases h), hA]
      | true =>
        rw [hy] at hA hD
        simp only [if_true] at hD
        rw [hD] at mD
        cases hya : y.asked with
        | true =>
          rw [hya] at hA
          rw [if_neg (by simp)] at hA
          rw [hA] at mA
          have : (askC c now y).asked = true := by unfold askC; split <;> simp [hya]
          rw [this, if_neg (by simp), if_neg (fun h => by obtain ⟨_, h, _⟩ := mA.1 h.2; cases h), hA]
        | false =>
          rw [hya] at hA
          rw [if_pos ⟨rfl, rfl⟩] at hA
          obtain ⟨t, h1, h2⟩ := hA
          rw [h1] at mA ⊢
          by_cases hdd : c.1 + c.2.1 ≤ now - y.t
          · have hw : whatC c now y = 3 := by unfold whatC; simp [hy, hdd]
            have : (askC c now y).asked = false := by unfold askC; rw [if_neg (by rw [hw]; decide)]; exact hya
            rw [this, if_pos ⟨rfl, rfl⟩, if_pos ⟨mD.2 ⟨_, rfl, by omega⟩, mA.2 ⟨t, rfl, by omega⟩⟩]
            exact ⟨now, rfl, .inr ⟨Int.le_refl _, by omega⟩⟩
          · rw [if_neg (c := x ∈ dKeys now s.dead ∧ x ∈ dKeys now s.ask) (fun h => by obtain ⟨u, h, h3⟩ := mD.1 h.1; cases h; omega)]
            by_cases hpp : c.1 ≤ now - y.t
            · have hw : whatC c now y = 2 := by unfold whatC; simp [hy, hdd, hpp, hya]
              have : (askC c now y).asked = true := by unfold askC; rw [if_pos hw]
              rw [this, if_neg (by simp)]
              simp only
              rw [if_pos (by omega)]
            · have hw : whatC c now y = 0 := by unfold whatC; simp [hy, hdd, hpp]
              have : (askC c now y).asked = false := by unfold askC; rw [if_neg (by rw [hw]; decide)]; exact hya
              rw [this, if_pos ⟨rfl, rfl⟩]
              simp only
              rw [if_neg (by omega)]
              exact ⟨t, rfl, h2⟩
  · show lk s.dead x = _
    rw [fd_map askC_id, h.dead]
    cases fd cs x <;> simp [askC_t, askC_inn]
theorem small_of (h : Rel c s cs now) (hok : s.ok) {n : Nat} (hn : cs.length ≤ n) : s.small n := by
  have hin : ∀ (xs : List (Int × Int)), (xs.map (·.1)).Nodup → (∀ x, (lk xs x).isSome = true → (fd cs x).isSome = true) → xs.length ≤ n := by
    intro xs hx hs
    have h1 := nodup_len (l := xs.map (·.1)) (dom := cs.map (·.id)) hx fun x hm => by
      have h2 := hs x (lk_mem.1 hm)
      obtain ⟨y, hy⟩ := Option.isSome_iff_exists.1 h2
      obtain ⟨h3, rfl⟩ := (fd_iff h.nd).1 hy
      exact List.mem_map_of_mem h3
    simp at h1; omega
  refine ⟨hin _ hok.l fun x hx => ?_, hin _ hok.a fun x hx => ?_, hin _ hok.d fun x hx => ?_⟩
  · rw [h.late] at hx; cases hf : fd cs x with
    | none => rw [hf] at hx; simp at hx
    | some y => rfl
  · have h2 := h.ask x
    cases hf : fd cs x with
    | none => rw [hf] at h2; simp only at h2; rw [h2] at hx; simp at hx
    | some y => rfl
  · rw [h.dead] at hx; cases hf : fd cs x with
    | none => rw [hf] at hx; simp at hx
    | some y => rfl
theorem sorted_keys_ext : ∀ {a b : List (Int × Int)}, (a.map (·.1)).Pairwise (· < ·) → (b.map (·.1)).Pairwise (· < ·) → (∀ x v, (x, v) ∈ a ↔ (x, v) ∈ b) → a = b := by
  intro a b ha hb h
  have na : a.Nodup := (List.pairwise_map.1 ha).imp fun {x y} h e => by rw [e] at h; exact absurd h (Int.lt_irrefl _)
  have nb : b.Nodup := (List.pairwise_map.1 hb).imp fun {x y} h e => by rw [e] at h; exact absurd h (Int.lt_irrefl _)
  have hp : a.Perm b := (List.perm_ext_iff_of_nodup na nb).2 fun x => h x.1 x.2
  refine hp.eq_of_pairwise (le := fun x y => x.1 < y.1) (fun x y _ _ h1 h2 => by omega) (List.pairwise_map.1 ha) (List.pairwise_map.1 hb)
/-- What is due by the program is what is due by the document. -/
theorem due_eq (h : Rel c s cs now) (hok : s.ok) (hc : Cf c now) {ids : List Int} {out : List (Int × Int)} (hp : ids.Pairwise (· < ·)) (hm : ∀ x, x ∈ ids ↔ (s.what now x).isSome = true) (ho : OkO c now cs out) : out = dueL (s.what now) ids := by
  refine sorted_keys_ext ho.sorted (by unfold dueL; rw [List.map_map]; simpa [Function.comp_def] using hp) fun x v => ?_
  rw [ho.mem, ← what_spec h hok hc]
  unfold dueL
  rw [List.mem_map]
  constructor
  · intro e; exact ⟨x, (hm x).2 (by simp [e]), by simp [e]⟩
  · rintro ⟨z, hz, he⟩
    simp only [Prod.mk.injEq] at he
    obtain ⟨rfl, rfl⟩ := he
    obtain ⟨u, hu⟩ := Option.isSome_iff_exists.1 ((hm z).1 hz)
    simp [hu]
end
end Go.Proofs.Ytnaeabcaennbjaa
