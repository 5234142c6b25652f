/- The timer's table: what is due, and its taking. -/
import Derived.Test.YtnaeabcaennbjaaTab
set_option linter.unusedVariables false
set_option linter.unusedSimpArgs false
namespace Go.Proofs.Ytnaeabcaennbjaa
open Go
section
variable {w : World} {l r : List HProp} {k : Value → World → Prop}
/-- The iterator over some items. -/
theorem iter36 {q : Nat} {s : Sl} {xs : List (Int × Int)} (hn : xs.length ≤ 100000000) : ITER Try.prog 36 #[] #[.pointer (some ⟨q, 0, none⟩)] xs (fun x => #[.int .i64 x.1, .int .i64 x.2]) [own Blk q (.cells #[slv s] 67 (0, 0)), own (Row 2 72) s (encs xs)] := by
  intro L J E k w l h0 hw hy hd hE
  apply f36.call
  unfold f36.b
  have hw' : SatL w (own Blk q (.cells #[slv s] 67 (0, 0)) :: own (Row 2 72) s (encs xs) :: l) := hw
  refine LD_r hw' (x := s) rfl ?_
  have hl := Row.len (hw'.drop)
  rw [encs_len] at hl
  have hl : xs.length = s.2.1 := by omega
  refine f36.L1_rule (fun n w => ∃ i : Nat, n = i ∧ i ≤ xs.length ∧ ∃ l', J i l' ∧ SatL w (own Blk q (.cells #[slv s] 67 (0, 0)) :: own (Row 2 72) s (encs xs) :: l')) (fun n _ => xs.length - n.toNat) ⟨0, rfl, Nat.zero_le _, l, h0, hw'⟩ ?_
  rintro n w ⟨i, rfl, hi, l', hJ, h⟩
  unfold f36.L1
  refine brD (fun hlt => ?_) fun hge => ?_
  · have hlt' : i < xs.length := by omega
    have hx : xs[(i : Int).toNat]? = some xs[i] := by rw [Int.toNat_natCast]; exact List.getElem?_eq_getElem hlt'
    refine IX_items (t := 72) (xs := xs) h (by omega) hx fun b cs' hb hc0 hc1 => ?_
    simp only [Addr.add_mk, Nat.add_zero]
    refine LD_get hb hc0 (LD_get hb hc1 (AL_r h fun q1 w1 h1 => ?_))
    repeat (first | (refine brF rfl ?_) | (refine brT rfl ?_) | (refine NN_r ?_) | (apply LD_r (by assumption); case hi => rfl) | (refine DR_r (by assumption) ?_; intro w hw) | (refine AL_r (by assumption) ?_; intro q w hw) | (apply ST_r (by assumption); (case hi => simp); (case hv => rfl); intro w hw; (try simp only [List.setIfInBounds_toArray, List.set_cons_zero, List.set_cons_succ, Nat.reduceAdd, Nat.zero_add] at hw)) | (refine MD_i (by assumption) ?_; intro w hw) | (apply MU_i (by assumption) <;> (first | assumption | (intro w hw))))
    refine ⟨?_⟩
    refine (hy i xs[i] _ l' (List.getElem?_eq_getElem hlt') hJ (by exact SatL.drop (by assumption))).mono ?_
    rintro v w4 (⟨rfl, l4, hJ4, h4⟩ | ⟨rfl, h4⟩)
    · refine ⟨_, rfl, brF rfl ?_⟩
      refine f36.L1_next ⟨i + 1, by rw [w64'] <;> omega, by omega, l4, hJ4, h4⟩ ?_
      rw [w64'] <;> omega
    · exact ⟨_, rfl, brT rfl (hE _ h4)⟩
  · have : i = xs.length := by omega
    subst this
    exact hd _ _ hJ h
def dueT (now : Int) (xs : List (Int × Int)) : List (Int × Int) := xs.filter fun x => decide (x.2 ≤ now)
theorem due_c {b : Nat} {xs : List (Int × Int)} {now : Int} (hw : SatL w l) [f : FindO l Tab b xs r] (hn : xs.length ≤ 100000000)
    (hk : ∀ q s w', SatL w' (own Blk q (.cells #[slv s] 67 (0, 0)) :: own (Row 2 72) s (encs (dueT now xs)) :: own Tab b xs :: r) → k (.func (.func 36) #[] #[.pointer (some ⟨q, 0, none⟩)]) w') :
    CALL Try.prog 26 #[.pointer (some ⟨b, 0, none⟩), .int .i64 now] k w := by
  obtain ⟨s, bm, ho, h⟩ := Tab.out (hw.find (A := Tab) b)
  have hl := Row.len (h.drop)
  rw [encs_len] at hl
  have hl : xs.length = s.2.1 := by omega
  apply f26.call
  unfold f26.b
  refine AL_r h fun q w1 h1 => brT rfl ?_
  have hJ2 : ∀ (i : Nat) (w : World), i ≤ xs.length → (∀ m x, m < i → xs[m]? = some x → x.2 ≤ now) → (∀ m x, i ≤ m → xs[m]? = some x → ¬ x.2 ≤ now) →
      SatL w (own Blk q (.cells #[slv (none, 0, 0)] 67 (0, 0)) :: own Blk b (.cells #[slv s, .map (some bm)] 69 (0, 0)) :: own (Row 2 72) s (encs xs) :: own Mp bm (lk xs) :: r) →
      f26.J2 (some ⟨b, 0, none⟩) q i k w := by
    intro i w hi hlo hhi h
    unfold f26.J2
    repeat (first | (refine brF rfl ?_) | (refine brT rfl ?_) | (refine NN_r ?_) | (apply LD_r (by assumption); case hi => rfl) | (refine DR_r (by assumption) ?_; intro w hw) | (refine AL_r (by assumption) ?_; intro q w hw) | (apply ST_r (by assumption); (case hi => simp); (case hv => rfl); intro w hw; (try simp only [List.setIfInBounds_toArray, List.set_cons_zero, List.set_cons_succ, Nat.reduceAdd, Nat.zero_add] at hw)) | (refine MD_i (by assumption) ?_; intro w hw) | (apply MU_i (by assumption) <;> (first | assumption | (intro w hw))))
    have hc : s.2.1 ≤ s.2.2 := by
      rcases Row.out (h.sub (l' := own (Row 2 72) s (encs xs) :: r)) with ⟨rfl, _⟩ | ⟨_, _, _, _, rfl, _, _, h3, _⟩
      · exact Nat.le_refl _
      · exact h3
    refine RQ_r (by omega) ?_
    rw [Int.toNat_natCast]
    refine clone_c (i := i) h (by omega) (by omega) (encs_one xs) fun s' w3 hs' h3 => ⟨_, rfl, ?_⟩
    rw [encs_take] at h3
    refine ST_r h3 (by simp) rfl fun w4 h4 => ?_
    simp only [List.setIfInBounds_toArray, List.set_cons_zero] at h4
    unfold f26.J1
    have e : xs.take i = dueT now xs := ((filter_split (p := fun x => decide (x.2 ≤ now)) (i := i) (fun m x hm hx => by simpa using hlo m x hm hx) (fun m x hm hx => by simpa using hhi m x hm hx)).1).symm
    rw [e] at h4
    refine hk q s' _ ?_
    refine SatL.perm (Tab.mk (b := b) (s := s) (bm := bm) (r := own Blk q (.cells #[slv s'] 67 (0, 0)) :: own (Row 2 72) s' (encs (dueT now xs)) :: r) (by exact h4.sub) ho) ?_
    exact ((List.Perm.swap _ _ _).trans (List.Perm.cons _ (List.Perm.swap _ _ _)))
  refine f26.L3_rule (fun n w => ∃ i : Nat, n = i ∧ i ≤ xs.length ∧ (∀ m x, m < i → xs[m]? = some x → x.2 ≤ now) ∧
      SatL w (own Blk q (.cells #[slv (none, 0, 0)] 67 (0, 0)) :: own Blk b (.cells #[slv s, .map (some bm)] 69 (0, 0)) :: own (Row 2 72) s (encs xs) :: own Mp bm (lk xs) :: r)) (fun n _ => xs.length - n.toNat)
    ⟨0, rfl, Nat.zero_le _, fun m x hm => absurd hm (Nat.not_lt_zero _), h1⟩ ?_
  rintro n w ⟨i, rfl, hi, hlo, h⟩
  unfold f26.L3
  repeat (first | (refine brF rfl ?_) | (refine brT rfl ?_) | (refine NN_r ?_) | (apply LD_r (by assumption); case hi => rfl) | (refine DR_r (by assumption) ?_; intro w hw) | (refine AL_r (by assumption) ?_; intro q w hw) | (apply ST_r (by assumption); (case hi => simp); (case hv => rfl); intro w hw; (try simp only [List.setIfInBounds_toArray, List.set_cons_zero, List.set_cons_succ, Nat.reduceAdd, Nat.zero_add] at hw)) | (refine MD_i (by assumption) ?_; intro w hw) | (apply MU_i (by assumption) <;> (first | assumption | (intro w hw))))
  refine brD (fun hlt => ?_) fun hge => ?_
  · have hlt' : i < xs.length := by omega
    have hx : xs[(i : Int).toNat]? = some xs[i] := by rw [Int.toNat_natCast]; exact List.getElem?_eq_getElem hlt'
    repeat (first | (refine brF rfl ?_) | (refine brT rfl ?_) | (refine NN_r ?_) | (apply LD_r (by assumption); case hi => rfl) | (refine DR_r (by assumption) ?_; intro w hw) | (refine AL_r (by assumption) ?_; intro q w hw) | (apply ST_r (by assumption); (case hi => simp); (case hv => rfl); intro w hw; (try simp only [List.setIfInBounds_toArray, List.set_cons_zero, List.set_cons_succ, Nat.reduceAdd, Nat.zero_add] at hw)) | (refine MD_i (by assumption) ?_; intro w hw) | (apply MU_i (by assumption) <;> (first | assumption | (intro w hw))))
    refine IX_items (t := 72) (xs := xs) h (by omega) hx fun b cs' hb hc0 hc1 => ?_
    simp only [Addr.add_mk, Nat.add_zero]
    refine LD_get hb hc1 (brD (fun hle => ?_) fun hle => ?_)
    · refine f26.L3_next ⟨i + 1, by rw [w64'] <;> omega, by omega, fun m y hm hy => ?_, h⟩ (by rw [w64'] <;> omega)
      by_cases hmi : m < i
      · exact hlo m y hmi hy
      · obtain rfl : m = i := by omega
        rw [List.getElem?_eq_getElem hlt'] at hy
        cases hy; exact hle
    · refine hJ2 i _ hi hlo (fun m y hm hy => ?_) h
      by_cases hmi : i = m
      · subst hmi
        rw [List.getElem?_eq_getElem hlt'] at hy
        cases hy; exact hle
      · have h2 := ho.sorted i m _ y (by omega) (List.getElem?_eq_getElem hlt') hy
        unfold ltT at h2
        omega
  · have : i = xs.length := by omega
    subst this
    exact hJ2 _ _ hi hlo (fun m x hm hx => by rw [List.getElem?_eq_none (by omega)] at hx; cases hx) h
def keepT (now : Int) (xs : List (Int × Int)) : List (Int × Int) := xs.filter fun x => !decide (x.2 ≤ now)
theorem dueT_split {now : Int} : ∀ {xs : List (Int × Int)}, xs.Pairwise ltT → dueT now xs = xs.take (dueT now xs).length ∧ keepT now xs = xs.drop (dueT now xs).length
  | [], _ => by simp [dueT, keepT]
  | x :: xs, h => by
    obtain ⟨h1, h2⟩ := List.pairwise_cons.1 h
    have ih := dueT_split (now := now) h2
    unfold dueT keepT at ih ⊢
    by_cases hx : x.2 ≤ now
    · simp only [List.filter_cons, hx, decide_true, if_true, Bool.not_true, Bool.false_eq_true, if_false, List.length_cons, List.take_succ_cons, List.drop_succ_cons]
      exact ⟨by rw [← ih.1], ih.2⟩
    · have h3 : xs.filter (fun x => decide (x.2 ≤ now)) = [] := by
        rw [List.filter_eq_nil_iff]
        intro y hy
        have := h1 y hy
        unfold ltT at this
        simp; omega
      have h4 : xs.filter (fun x => !decide (x.2 ≤ now)) = xs := by
        rw [List.filter_eq_self]
        intro y hy
        have := h1 y hy
        unfold ltT at this
        simp; omega
      simp [hx, h3]
      intro a b hab
      have := h1 _ hab
      unfold ltT at this
      simp at this; omega
theorem Tab.ok {b : Nat} {xs : List (Int × Int)} (h : SatL w (own Tab b xs :: r)) : OkT xs := by
  obtain ⟨_, _, ho, _⟩ := Tab.out h; exact ho
theorem delT_drop {xs : List (Int × Int)} {i : Nat} {x : Int × Int} (ho : OkT xs) (hx : xs[i]? = some x) : delT x.1 (xs.drop i) = xs.drop (i + 1) := by
  obtain ⟨hi, rfl⟩ := List.getElem?_eq_some_iff.1 hx
  have hn := ((List.drop_sublist i xs).map (·.1)).nodup ho.nodup
  rw [List.drop_eq_getElem_cons hi] at hn ⊢
  simp only [List.map_cons, List.nodup_cons] at hn
  have := delT_none hn.1
  show List.filter (fun y => y.1 != xs[i].1) (xs[i] :: xs.drop (i + 1)) = _
  unfold delT at this
  rw [List.filter_cons, if_neg (by simp), this]
abbrev encK (ks : List (Int × Int)) : List Value := ks.map fun x => Value.int .i64 x.1
theorem take_c {b : Nat} {xs : List (Int × Int)} {now : Int} (hw : SatL w l) [f : FindO l Tab b xs r] (hn : xs.length ≤ 10000000)
    (hk : ∀ s w', SatL w' (own (Row 1 3) s (encK (dueT now xs)) :: own Tab b (keepT now xs) :: r) → k (slv s) w') :
    CALL Try.prog 27 #[.pointer (some ⟨b, 0, none⟩), .int .i64 now] k w := by
  have hw := hw.find (A := Tab) b
  have ho := Tab.ok hw
  obtain ⟨hs1, hs2⟩ := dueT_split (now := now) (sortedT_pw.1 ho.sorted)
  obtain ⟨m, hm⟩ : ∃ m, m = (dueT now xs).length := ⟨_, rfl⟩
  rw [← hm] at hs1 hs2
  have hml : m ≤ xs.length := hm ▸ List.length_filter_le _ _
  apply f27.call
  unfold f27.b
  refine AL_r hw fun q1 w1 h1 => AL_r h1 fun q2 w2 h2 => LD_r h2 (x := some ⟨b, 0, none⟩) rfl (due_c h2 (by omega) fun q s w3 h3 => ⟨_, rfl, ?_⟩)
  refine f27.R2_rule rfl Try.call36 h3 fun rec L D w yl h4 => ?_
  refine iter36 (xs := dueT now xs) (s := s) (by omega) L (fun i l' => ∃ s', l' = own Blk L (.loop (rec .ready none)) :: own Blk D (.deferred (some [])) :: own Blk q1 (.cells #[.pointer (some ⟨b, 0, none⟩)] 54 (0, 0)) :: own Blk q2 (.cells #[slv s'] 61 (0, 0)) ::
    own (Row 1 3) s' (encK (xs.take i)) :: own Tab b (xs.drop i) :: r) (fun _ => False) _ _ _ ⟨(none, 0, 0), rfl⟩
    (show SatL w (own Blk q (.cells #[slv s] 67 (0, 0)) :: own (Row 2 72) s (encs (dueT now xs)) :: own Blk L (.loop (rec .ready none)) :: own Blk D (.deferred (some [])) :: own Blk q1 (.cells #[.pointer (some ⟨b, 0, none⟩)] 54 (0, 0)) :: own Blk q2 (.cells #[slv (none, 0, 0)] 61 (0, 0)) ::
      own (Row 1 3) (none, 0, 0) [] :: own Tab b xs :: r) from (Row.nil (sz := 1) (t := 3) h4).sub) ?_ ?_ ?_
  · rintro i x w l hx ⟨s', rfl⟩ hw
    have hi : i < m := by rw [hm]; exact (List.getElem?_eq_some_iff.1 hx).1
    have hx' : xs[i]? = some x := by rw [hs1, List.getElem?_take_of_lt hi] at hx; exact hx
    refine yl (l := own (Row 2 72) s (encs (dueT now xs)) :: own Blk q (.cells #[slv s] 67 (0, 0)) :: own Blk D (.deferred (some [])) :: own Blk q1 (.cells #[.pointer (some ⟨b, 0, none⟩)] 54 (0, 0)) :: own Blk q2 (.cells #[slv s'] 61 (0, 0)) ::
      own (Row 1 3) s' (encK (xs.take i)) :: own Tab b (xs.drop i) :: r) hw.sub ?_
    unfold f27.R2
    refine ⟨_, hw.sub (l' := own Blk L (.loop (rec .ready none)) :: own (Row 2 72) s (encs (dueT now xs)) :: own Blk q (.cells #[slv s] 67 (0, 0)) :: own Blk D (.deferred (some [])) :: own Blk q1 (.cells #[.pointer (some ⟨b, 0, none⟩)] 54 (0, 0)) :: own Blk q2 (.cells #[slv s'] 61 (0, 0)) ::
      own (Row 1 3) s' (encK (xs.take i)) :: own Tab b (xs.drop i) :: r), fun w4 h5 => ?_⟩
    unfold f27.R2b
    refine LD_r h5 (x := s') rfl (AL_r h5 fun q5 w5 h6 => ?_)
    have hnew : cellsOfS w5 (some ⟨q5, 0, none⟩, 1, 1) (1 * 1) = some [.int .i64 x.1] := by
      have h7 : SatL w5 (own (Row 1 3) (some ⟨q5, 0, none⟩, 1, 1) [.int .i64 x.1] :: _) := Row.mk (cs := [.int .i64 x.1]) (sp := []) (by simpa using h6) (by simp) (by simp) (Nat.le_refl _)
      simpa using Row.cells h7 (m := 1) (Nat.le_refl _)
    have hsl := Row.len (h6.sub (l' := own (Row 1 3) s' (encK (xs.take i)) :: r))
    have hsl : s'.2.1 ≤ 10000000 := by simp at hsl; omega
    refine APP_r (zero := [.int .i64 0]) (vs := [.int .i64 x.1]) (sz := 1) (t := 3) (s := s') h6 rfl hnew rfl (by simp [Value.oneCell']) (by decide) (by omega) fun s5 w6 _ h7 => ?_
    refine ST_r h7 (by simp) rfl fun w7 h8 => ?_
    simp only [List.setIfInBounds_toArray, List.set_cons_zero] at h8
    refine LD_r h8 (x := some ⟨b, 0, none⟩) rfl (stop_c h8 (by simp; omega) fun w8 h9 => ⟨_, rfl, ?_⟩)
    rw [delT_drop ho hx'] at h9
    have e : encK (xs.take i) ++ [Value.int .i64 x.1] = encK (xs.take (i + 1)) := by
      rw [List.take_add_one, hx']; simp
    rw [e] at h9
    refine ⟨own Blk q (.cells #[slv s] 67 (0, 0)) :: own (Row 2 72) s (encs (dueT now xs)) :: own Blk D (.deferred (some [])) :: own Blk q1 (.cells #[.pointer (some ⟨b, 0, none⟩)] 54 (0, 0)) :: own Blk q2 (.cells #[slv s5] 61 (0, 0)) ::
      own (Row 1 3) s5 (encK (xs.take (i + 1))) :: own Tab b (xs.drop (i + 1)) :: r, h9.sub, fun w9 h10 => .inl ⟨rfl, _, ⟨s5, rfl⟩, h10.sub⟩⟩
  · rintro l w ⟨s', rfl⟩ hw
    rw [← hm] at hw
    refine ⟨own Blk q (.cells #[slv s] 67 (0, 0)) :: own (Row 2 72) s (encs (dueT now xs)) :: own Blk D (.deferred (some [])) :: own Blk q1 (.cells #[.pointer (some ⟨b, 0, none⟩)] 54 (0, 0)) :: own Blk q2 (.cells #[slv s'] 61 (0, 0)) ::
      own (Row 1 3) s' (encK (xs.take m)) :: own Tab b (xs.drop m) :: r, hw.sub, fun w9 h10 => ?_⟩
    unfold f27.R2A f27.J1
    refine LD_r h10 (x := s') rfl (closeD_r h10 fun w10 h11 => hk s' _ ?_)
    rw [hs2, hs1]
    exact h11.sub
  · intro w h; exact h.elim
end
end Go.Proofs.Ytnaeabcaennbjaa
