/- The law's same: is just this due? -/
import Derived.Test.YtnaeabcaennbjaaDue
set_option linter.unusedVariables false
set_option linter.unusedSimpArgs false
namespace Go.Proofs.Ytnaeabcaennbjaa
open Go
section
variable {w : World} {l r l' r' : List HProp} {k : Value → World → Prop} {b : Nat} {s : PS} {now : Int}
theorem iter30 {q1 q2 bm : Nat} {sl : Sl} {ids : List Int} {m : Int → Option Int} (hn : ids.length ≤ 100000000) :
    ITER Try.prog 30 #[] #[.pointer (some ⟨q1, 0, none⟩), .pointer (some ⟨q2, 0, none⟩)] ids (fun x => #[.int .i64 x, .int .i64 ((m x).getD 0)])
      [own Blk q1 (.cells #[slv sl] 61 (0, 0)), own (Row 1 3) sl (ids.map (Value.int .i64)), own Blk q2 (.cells #[.map (some bm)] 53 (0, 0)), own Mp bm m] := by
  intro L J E k w l h0 hw hy hd hE
  apply f30.call
  unfold f30.b
  have hw' : SatL w (own Blk q1 (.cells #[slv sl] 61 (0, 0)) :: own (Row 1 3) sl (ids.map (Value.int .i64)) :: own Blk q2 (.cells #[.map (some bm)] 53 (0, 0)) :: own Mp bm m :: l) := hw
  refine LD_r hw' (x := sl) rfl ?_
  have hl := Row.len (hw'.drop)
  have hl : ids.length = sl.2.1 := by simpa using hl
  refine f30.L1_rule (fun n w => ∃ i : Nat, n = i ∧ i ≤ ids.length ∧ ∃ l', J i l' ∧ SatL w (own Blk q1 (.cells #[slv sl] 61 (0, 0)) :: own (Row 1 3) sl (ids.map (Value.int .i64)) :: own Blk q2 (.cells #[.map (some bm)] 53 (0, 0)) :: own Mp bm m :: l')) (fun n _ => ids.length - n.toNat) ⟨0, rfl, Nat.zero_le _, l, h0, hw'⟩ ?_
  rintro n w ⟨i, rfl, hi, l', hJ, h⟩
  unfold f30.L1
  refine brD (fun hlt => ?_) fun hge => ?_
  · have hlt' : i < ids.length := by omega
    have hx := List.getElem?_eq_getElem hlt'
    rcases Row.out (h.sub (l' := own (Row 1 3) sl (ids.map (Value.int .i64)) :: l')) with ⟨rfl, _⟩ | ⟨b2, n2, c2, sp, rfl, _, _, _, h12⟩
    · simp only at hl; omega
    · simp only at hl
      refine ⟨_, rfl, by omega, by simp only; omega, ?_⟩
      rw [Addr.add_mk, Nat.zero_add, Nat.mul_one, Int.toNat_natCast]
      refine LD_get (x := ids[i]) h12.get (by rw [List.getElem?_toArray, List.getElem?_append_left (by simpa using hlt')]; simp [hx]) ?_
      refine LD_r h (x := some bm) rfl (LK_i h ⟨_, rfl, ⟨?_⟩⟩)
      refine (hy i ids[i] _ l' hx hJ h).mono ?_
      rintro v w4 (⟨rfl, l4, hJ4, h4⟩ | ⟨rfl, h4⟩)
      · refine ⟨_, rfl, brF rfl ?_⟩
        refine f30.L1_next ⟨i + 1, by rw [w64'] <;> omega, by omega, l4, hJ4, h4⟩ ?_
        rw [w64'] <;> omega
      · exact ⟨_, rfl, brT rfl (hE _ h4)⟩
  · have : i = ids.length := by omega
    subst this
    exact hd _ _ hJ h
def dueL (m : Int → Option Int) (ids : List Int) : List (Int × Int) := ids.map fun x => (x, (m x).getD 0)
theorem same_c {sl : Sl} {ws : List (Int × Int)} (hw : SatL w l) [f : FindO l Pls b s r] [f2 : FindO r (Row 2 51) sl (encs ws) r'] (hn : s.small 100000) (hwl : ws.length ≤ 100000)
    (hk : ∀ (ids : List Int) (w' : World), ids.Pairwise (· < ·) → (∀ x, x ∈ ids ↔ (s.what now x).isSome = true) → SatL w' (own Pls b (s.due now) :: own (Row 2 51) sl (encs ws) :: r') → k (.bool (decide (ws = dueL (s.what now) ids))) w') :
    CALL Try.prog 16 #[.pointer (some ⟨b, 0, none⟩), slv sl, .int .i64 now] k w := by
  have h0 : SatL w (own Pls b s :: own (Row 2 51) sl (encs ws) :: r') := (hw.find (A := Pls) b).perm (f2.perm.cons _)
  have hsl := Row.len h0.drop
  rw [encs_len] at hsl
  apply f16.call
  unfold f16.b
  clear hw
  repeat (first | (refine brF rfl ?_) | (refine brT rfl ?_) | (refine NN_r ?_) | (apply LD_r (by assumption); case hi => rfl) | (refine DR_r (by assumption) ?_; intro w hw) | (refine AL_r (by assumption) ?_; intro q w hw) | (apply ST_r (by assumption); (case hi => simp); (case hv => rfl); intro w hw; (try simp only [List.setIfInBounds_toArray, List.set_cons_zero, List.set_cons_succ, Nat.reduceAdd, Nat.zero_add] at hw)) | (refine MD_i (by assumption) ?_; intro w hw) | (apply MU_i (by assumption) <;> (first | assumption | (intro w hw))))
  refine pdue_c hw hn fun q1 q2 bm sl2 ids w1 hp hm h1 => ⟨_, rfl, FNIL_f (brF rfl ?_)⟩
  rename_i q4 _ _ q5 _ _ q6 _ _ _ _ _ _
  have hidl := ids_len hn hp hm
  have hdl : (dueL (s.what now) ids).length = ids.length := by simp [dueL]
  refine f16.R2_rule rfl Try.call30 h1 fun rec L D w yl h2 => ?_
  refine iter30 (m := s.what now) (ids := ids) (q1 := q1) (q2 := q2) (bm := bm) (sl := sl2) (by omega) L (fun i l' => ∃ g : Bool, i ≤ ws.length ∧ g = decide (ws.take i = (dueL (s.what now) ids).take i) ∧ l' = own Blk L (.loop (rec .ready none)) :: own Blk D (.deferred (some [])) ::
    own Blk q (.cells #[.bool g] 4 (0, 0)) :: own Blk q6 (.cells #[.int .i64 (i : Int)] 3 (0, 0)) :: own Blk q5 (.cells #[.bool false] 4 (0, 0)) :: own Blk q4 (.cells #[slv sl] 42 (0, 0)) :: own Pls b (s.due now) :: own (Row 2 51) sl (encs ws) :: r')
    (fun w => ∃ i, ws.length ≤ i ∧ i < ids.length ∧ SatL w (own Blk L (.loop (rec .done (some .ret))) :: own Blk D (.deferred (some [])) :: own Blk q5 (.cells #[.bool false] 4 (0, 0)) :: own Pls b (s.due now) :: own (Row 2 51) sl (encs ws) :: r'))
    _ _ _ ⟨true, Nat.zero_le _, by simp, rfl⟩ (by exact h2.sub) ?_ ?_ ?_
  · rintro i x w l hx ⟨g, hi, hg, rfl⟩ hw
    have hil : i < ids.length := (List.getElem?_eq_some_iff.1 hx).1
    have hdx : (dueL (s.what now) ids)[i]? = some (x, (s.what now x).getD 0) := by simp [dueL, hx]
    refine yl (hw.find (A := Blk) L) ?_
    unfold f16.R2
    refine BG_n hw fun w2 h2 => ?_
    unfold f16.R2b
    refine LD_r h2 (x := (i : Int)) rfl (LD_r h2 (x := sl) rfl (brD (fun hge => ?_) fun hlt => ?_))
    · refine ST_r h2 (by simp) rfl fun w3 h3 => ⟨_, h3.find (A := Blk) L, fun w4 h4 => .inr ⟨rfl, i, by omega, hil, ?_⟩⟩
      simp only [List.setIfInBounds_toArray, List.set_cons_zero] at h4
      exact h4.sub
    · have hlt' : i < ws.length := by omega
      obtain ⟨y, hy⟩ : ∃ y, ws[i]? = some y := ⟨_, List.getElem?_eq_getElem hlt'⟩
      have hstep : (ws.take (i + 1) = (dueL (s.what now) ids).take (i + 1)) ↔ (ws.take i = (dueL (s.what now) ids).take i ∧ y = (x, (s.what now x).getD 0)) := by
        rw [take_one hy, take_one hdx]
        constructor
        · intro e
          have h5 := List.append_inj_left' e rfl
          have h6 := List.append_inj_right' e rfl
          exact ⟨h5, by simpa using h6⟩
        · rintro ⟨e1, e2⟩; rw [e1, e2]
      have hfin : ∀ (w : World) (g' : Bool), (g' = decide (ws.take (i + 1) = (dueL (s.what now) ids).take (i + 1))) → SatL w (own Blk q6 (.cells #[.int .i64 (IntKind.wrap .i64 ((i : Int) + 1))] 3 (0, 0)) :: own Blk q (.cells #[.bool g'] 4 (0, 0)) :: own Blk L (.loop (rec .busy none)) :: own Blk q1 (.cells #[slv sl2] 61 (0, 0)) :: own (Row 1 3) sl2 (ids.map (Value.int .i64)) :: own Blk q2 (.cells #[.map (some bm)] 53 (0, 0)) :: own Mp bm (s.what now) :: own Blk D (.deferred (some [])) ::
          own Blk q5 (.cells #[.bool false] 4 (0, 0)) :: own Blk q4 (.cells #[slv sl] 42 (0, 0)) :: own Pls b (s.due now) :: own (Row 2 51) sl (encs ws) :: r') →
          rdE L rec (fun v w' => (v = .bool true ∧ ∃ l', (∃ g : Bool, i + 1 ≤ ws.length ∧ g = decide (ws.take (i + 1) = (dueL (s.what now) ids).take (i + 1)) ∧ l' = own Blk L (.loop (rec .ready none)) :: own Blk D (.deferred (some [])) ::
            own Blk q (.cells #[.bool g] 4 (0, 0)) :: own Blk q6 (.cells #[.int .i64 ((i + 1 : Nat) : Int)] 3 (0, 0)) :: own Blk q5 (.cells #[.bool false] 4 (0, 0)) :: own Blk q4 (.cells #[slv sl] 42 (0, 0)) :: own Pls b (s.due now) :: own (Row 2 51) sl (encs ws) :: r') ∧
            SatL w' ([own Blk q1 (.cells #[slv sl2] 61 (0, 0)), own (Row 1 3) sl2 (ids.map (Value.int .i64)), own Blk q2 (.cells #[.map (some bm)] 53 (0, 0)), own Mp bm (s.what now)] ++ l')) ∨ (v = .bool false ∧ ∃ i, ws.length ≤ i ∧ i < ids.length ∧ SatL w' (own Blk L (.loop (rec .done (some .ret))) :: own Blk D (.deferred (some [])) :: own Blk q5 (.cells #[.bool false] 4 (0, 0)) :: own Pls b (s.due now) :: own (Row 2 51) sl (encs ws) :: r'))) .normal w := by
        intro w g' hg' h3
        refine rdE_n h3 fun w4 h4 => .inl ⟨rfl, _, ⟨g', hlt', hg', rfl⟩, ?_⟩
        rw [show IntKind.wrap .i64 ((i : Int) + 1) = ((i + 1 : Nat) : Int) by rw [w64'] <;> omega] at h4
        exact h4.sub
      have hset : ∀ (w : World) (g' : Bool), (g' = decide (ws.take (i + 1) = (dueL (s.what now) ids).take (i + 1))) → SatL w (own Blk q (.cells #[.bool g'] 4 (0, 0)) :: own Blk L (.loop (rec .busy none)) :: own Blk q1 (.cells #[slv sl2] 61 (0, 0)) :: own (Row 1 3) sl2 (ids.map (Value.int .i64)) :: own Blk q2 (.cells #[.map (some bm)] 53 (0, 0)) :: own Mp bm (s.what now) :: own Blk D (.deferred (some [])) ::
          own Blk q6 (.cells #[.int .i64 (i : Int)] 3 (0, 0)) :: own Blk q5 (.cells #[.bool false] 4 (0, 0)) :: own Blk q4 (.cells #[slv sl] 42 (0, 0)) :: own Pls b (s.due now) :: own (Row 2 51) sl (encs ws) :: r') →
          LD (Value.int .i64) ⟨q6, 0, none⟩ (fun n169 w => ST (Addr.add ⟨q6, 0, none⟩ 0) (.int .i64 (IntKind.wrap .i64 (n169 + 1))) (fun w => rdE L rec (fun v w' => (v = .bool true ∧ ∃ l', (∃ g : Bool, i + 1 ≤ ws.length ∧ g = decide (ws.take (i + 1) = (dueL (s.what now) ids).take (i + 1)) ∧ l' = own Blk L (.loop (rec .ready none)) :: own Blk D (.deferred (some [])) ::
            own Blk q (.cells #[.bool g] 4 (0, 0)) :: own Blk q6 (.cells #[.int .i64 ((i + 1 : Nat) : Int)] 3 (0, 0)) :: own Blk q5 (.cells #[.bool false] 4 (0, 0)) :: own Blk q4 (.cells #[slv sl] 42 (0, 0)) :: own Pls b (s.due now) :: own (Row 2 51) sl (encs ws) :: r') ∧
            SatL w' ([own Blk q1 (.cells #[slv sl2] 61 (0, 0)), own (Row 1 3) sl2 (ids.map (Value.int .i64)), own Blk q2 (.cells #[.map (some bm)] 53 (0, 0)), own Mp bm (s.what now)] ++ l')) ∨ (v = .bool false ∧ ∃ i, ws.length ≤ i ∧ i < ids.length ∧ SatL w' (own Blk L (.loop (rec .done (some .ret))) :: own Blk D (.deferred (some [])) :: own Blk q5 (.cells #[.bool false] 4 (0, 0)) :: own Pls b (s.due now) :: own (Row 2 51) sl (encs ws) :: r'))) .normal w) w) w := by
        intro w g' hg' h3
        refine LD_r h3 (x := (i : Int)) rfl (ST_r h3 (by simp) rfl fun w4 h4 => hfin _ g' hg' ?_)
        simp only [List.setIfInBounds_toArray, List.set_cons_zero] at h4
        exact h4.sub
      have hx0 : ws[((i : Nat) : Int).toNat]? = some y := by rw [Int.toNat_natCast]; exact hy
      refine LD_r h2 (x := g) rfl (br (fun hgt => ?_) fun hgf => ?_)
      · refine LD_r h2 (x := sl) rfl (LD_r h2 (x := (i : Int)) rfl (IX_items (t := 51) (xs := ws) h2 (by omega) hx0 fun b2 cs' hb2 hc0 hc1 => ?_))
        rw [Addr.add_mk]
        refine LD_get hb2 hc0 (brE (fun he => ?_) fun he => ?_)
        · refine LD_r h2 (x := sl) rfl (LD_r h2 (x := (i : Int)) rfl (IX_items (t := 51) (xs := ws) h2 (by omega) hx0 fun b2 cs' hb2 hc0 hc1 => ?_))
          rw [Addr.add_mk]
          refine LD_get hb2 hc1 (ST_r h2 (by simp) rfl fun w3 h3 => hset _ ((s.what now x).getD 0 == y.2) ?_ (by simp only [List.setIfInBounds_toArray, List.set_cons_zero] at h3; exact h3.sub))
          rw [Bool.eq_iff_iff, decide_eq_true_iff, hstep]
          rw [hgt] at hg
          have hg := of_decide_eq_true hg.symm
          obtain ⟨y1, y2⟩ := y
          simp only [beq_iff_eq, Prod.mk.injEq]
          simp only at he
          constructor
          · intro h5; exact ⟨hg, he.symm, h5.symm⟩
          · rintro ⟨_, _, h5⟩; exact h5.symm
        · refine ST_r h2 (by simp) rfl fun w3 h3 => hset _ false ?_ (by simp only [List.setIfInBounds_toArray, List.set_cons_zero] at h3; exact h3.sub)
          rw [eq_comm, decide_eq_false_iff_not, hstep]
          rintro ⟨_, h5⟩
          rw [h5] at he
          exact he rfl
      · refine ST_r h2 (by simp) rfl fun w3 h3 => hset _ false ?_ (by simp only [List.setIfInBounds_toArray, List.set_cons_zero] at h3; exact h3.sub)
        rw [eq_comm, decide_eq_false_iff_not, hstep]
        rintro ⟨h5, _⟩
        rw [hgf] at hg
        exact of_decide_eq_false hg.symm h5
  · rintro l w ⟨g, hi, hg, rfl⟩ hw
    refine .inl ⟨_, hw.find (A := Blk) L, fun w3 h3 => ?_⟩
    unfold f16.R2A f16.J1
    have htk : (dueL (s.what now) ids).take ids.length = dueL (s.what now) ids := List.take_of_length_le (by omega)
    rw [htk] at hg
    refine LD_r h3 (x := g) rfl (br (fun hgt => ?_) fun hgf => ?_)
    · refine LD_r h3 (x := (ids.length : Int)) rfl (LD_r h3 (x := sl) rfl (ST_r h3 (by simp) rfl fun w4 h4 => closeD_r h4 fun w5 h5 => ?_))
      simp only [List.setIfInBounds_toArray, List.set_cons_zero] at h5
      refine LD_r h5 rfl ?_
      rw [hgt] at hg
      have hg := of_decide_eq_true hg.symm
      have e : (((ids.length : Int)) == ((sl.2.1 : Nat) : Int)) = decide (ws = dueL (s.what now) ids) := by
        rw [Bool.eq_iff_iff, decide_eq_true_iff, beq_iff_eq]
        constructor
        · intro h6
          rw [List.take_of_length_le (by omega)] at hg
          exact hg
        · intro h6
          have := congrArg List.length h6
          omega
      rw [e]
      exact hk ids _ hp hm h5.sub
    · refine ST_r h3 (by simp) rfl fun w4 h4 => closeD_r h4 fun w5 h5 => ?_
      simp only [List.setIfInBounds_toArray, List.set_cons_zero] at h5
      refine LD_r h5 rfl ?_
      have e : false = decide (ws = dueL (s.what now) ids) := by
        rw [eq_comm, decide_eq_false_iff_not]
        intro h6
        rw [hgf] at hg
        refine of_decide_eq_false hg.symm ?_
        have := congrArg List.length h6
        rw [List.take_of_length_le (by omega)]; exact h6
      rw [e]
      exact hk ids _ hp hm h5.sub
  · rintro w ⟨i, hi, hil, hw⟩
    refine .inr ⟨_, hw, fun w3 h3 => ?_⟩
    unfold f16.R2Aret
    refine closeD_r h3 fun w5 h5 => LD_r h5 (x := false) rfl ?_
    have e : false = decide (ws = dueL (s.what now) ids) := by
      rw [eq_comm, decide_eq_false_iff_not]
      intro h6
      have := congrArg List.length h6
      omega
    rw [e]
    exact hk ids _ hp hm h5.sub
end
end Go.Proofs.Ytnaeabcaennbjaa
