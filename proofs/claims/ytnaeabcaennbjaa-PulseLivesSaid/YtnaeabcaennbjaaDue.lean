/- Pulse's Due. -/
import Derived.Test.YtnaeabcaennbjaaSrt
set_option linter.unusedVariables false
set_option linter.unusedSimpArgs false
namespace Go.Proofs.Ytnaeabcaennbjaa
open Go
section
variable {w : World} {l r l' r' : List HProp} {k : Value → World → Prop} {b : Nat} {s : PS} {now : Int}
theorem DRC_s {F : (World → Prop) → World → Prop} (hw : SatL w l) (l' : List HProp) [SubH l l'] (hk : ∀ w', SatL w' l → F (fun w => SatL w l') w') : DRC F w := ⟨_, (hw.sub : SatL w l'), hk _ hw⟩
theorem rdE_n {L : Nat} {rec : LoopState → Option Code → Loop} {K : Value → World → Prop} (hw : SatL w l) [f : FindO l Blk L (.loop (rec .busy none)) r] (hk : ∀ w', SatL w' (own Blk L (.loop (rec .ready none)) :: r) → K (.bool true) w') : rdE L rec K .normal w :=
  ⟨r, hw.find (A := Blk) L, hk⟩
theorem BG_n {L : Nat} {rec : LoopState → Option Code → Loop} {F : World → Prop} (hw : SatL w l) [f : FindO l Blk L (.loop (rec .ready none)) r] (hk : ∀ w', SatL w' (own Blk L (.loop (rec .busy none)) :: r) → F w') : BG L rec F w :=
  ⟨r, hw.find (A := Blk) L, hk⟩
theorem Mp.inI {m : Int → Option Int} (h : SatL w (own Mp b m :: r)) : ∀ x, (m x).isSome = true → inI x := by
  obtain ⟨ps, es, clock, ⟨h1, h2, hst, hki⟩, h3, h4⟩ := Mp.out h
  intro x hx
  rw [← h3] at hx
  obtain ⟨p, hp, rfl⟩ := List.mem_map.1 (lk_mem.2 hx)
  exact hki p hp
theorem Tab.inI {xs : List (Int × Int)} (h : SatL w (own Tab b xs :: r)) : ∀ x ∈ xs, inI x.1 := by
  obtain ⟨_, _, _, h⟩ := Tab.out h
  intro x hx
  have h2 := h.drop.drop
  exact Mp.inI h2 _ (lk_mem.1 (List.mem_map_of_mem hx))
def dKeys (now : Int) (xs : List (Int × Int)) : List Int := (dueT now xs).map (·.1)
def setAll (v : Int) (ks : List Int) (m : Int → Option Int) : Int → Option Int := ks.foldl (fun m k x => if x = k then some v else m x) m
theorem setAll_app (v : Int) (ks ks' : List Int) (m : Int → Option Int) : setAll v (ks ++ ks') m = setAll v ks' (setAll v ks m) := by simp [setAll, List.foldl_append]
theorem setAll_one (v k : Int) (m : Int → Option Int) : setAll v [k] m = fun x => if x = k then some v else m x := rfl
theorem setAll_eq (v : Int) : ∀ (ks : List Int) (m : Int → Option Int) (x : Int), setAll v ks m x = if x ∈ ks then some v else m x
  | [], m, x => by simp [setAll]
  | k :: ks, m, x => by
    have ih := setAll_eq v ks (fun x => if x = k then some v else m x) x
    show setAll v ks (fun x => if x = k then some v else m x) x = _
    rw [ih]
    by_cases h1 : x ∈ ks
    · simp [h1]
    · by_cases h2 : x = k <;> simp [h1, h2]
def PS.what1 (s : PS) (now : Int) : Int → Option Int := setAll 2 (dKeys now s.ask) (setAll 1 (dKeys now s.late) fun _ => none)
def PS.what (s : PS) (now : Int) : Int → Option Int := setAll 3 (dKeys now s.dead) (s.what1 now)
def askAfter (now : Int) (taken ks : List Int) (a : List (Int × Int)) : List (Int × Int) := ks.foldl (fun a k => if k ∈ taken then insT k now (delT k a) else a) a
theorem askAfter_app (now : Int) (taken ks : List Int) (k : Int) (a : List (Int × Int)) : askAfter now taken (ks ++ [k]) a = if k ∈ taken then insT k now (delT k (askAfter now taken ks a)) else askAfter now taken ks a := by simp [askAfter, List.foldl_append]
theorem askAfter_len (now : Int) (taken : List Int) : ∀ (ks : List Int) (a : List (Int × Int)), (askAfter now taken ks a).length ≤ a.length + ks.length
  | [], a => by simp [askAfter]
  | k :: ks, a => by
    have ih := askAfter_len now taken ks (if k ∈ taken then insT k now (delT k a) else a)
    show (askAfter now taken ks (if k ∈ taken then insT k now (delT k a) else a)).length ≤ _
    have h2 : (if k ∈ taken then insT k now (delT k a) else a).length ≤ a.length + 1 := by
      split
      · rw [insT_len]; have := delT_len k a; omega
      · omega
    simp only [List.length_cons]
    omega
def PS.due (s : PS) (now : Int) : PS := { s with ask := askAfter now (dKeys now s.ask) (dKeys now s.dead) (keepT now s.ask) }
theorem dKeys_len (now : Int) (xs : List (Int × Int)) : (dKeys now xs).length ≤ xs.length := by unfold dKeys dueT; rw [List.length_map]; exact List.length_filter_le _ _
theorem dKeys_take {xs : List (Int × Int)} {i : Nat} {x : Int × Int} (h : (dueT now xs)[i]? = some x) : (dKeys now xs).take (i + 1) = (dKeys now xs).take i ++ [x.1] := take_one (by simp [dKeys, h])
theorem what_dom {x : Int} (hx : (s.what now x).isSome = true) : x ∈ dKeys now s.dead ++ dKeys now s.ask ++ dKeys now s.late := by
  unfold PS.what PS.what1 at hx
  rw [setAll_eq, setAll_eq, setAll_eq] at hx
  simp only [List.mem_append]
  by_cases h5 : x ∈ dKeys now s.dead
  · exact .inl (.inl h5)
  · by_cases h6 : x ∈ dKeys now s.ask
    · exact .inl (.inr h6)
    · by_cases h7 : x ∈ dKeys now s.late
      · exact .inr h7
      · simp [h5, h6, h7] at hx
theorem ids_len {ids : List Int} (hn : s.small 100000) (hp : ids.Pairwise (· < ·)) (hm : ∀ x, x ∈ ids ↔ (s.what now x).isSome = true) : ids.length ≤ 300000 := by
  have h1 := nodup_len (l := ids) (dom := dKeys now s.dead ++ dKeys now s.ask ++ dKeys now s.late) (hp.imp fun h => by omega) fun x hx => what_dom ((hm x).1 hx)
  have hL := dKeys_len now s.late
  have hA := dKeys_len now s.ask
  have hD := dKeys_len now s.dead
  obtain ⟨hn1, hn2, hn3⟩ := hn
  simp only [List.length_append] at h1
  omega
theorem pdue_c (hw : SatL w l) [f : FindO l Pls b s r] (hn : s.small 100000)
    (hk : ∀ (q1 q2 bm : Nat) (sl : Sl) (ids : List Int) (w' : World), ids.Pairwise (· < ·) → (∀ x, x ∈ ids ↔ (s.what now x).isSome = true) →
      SatL w' (own Blk q1 (.cells #[slv sl] 61 (0, 0)) :: own (Row 1 3) sl (ids.map (Value.int .i64)) :: own Blk q2 (.cells #[.map (some bm)] 53 (0, 0)) :: own Mp bm (s.what now) :: own Pls b (s.due now) :: r) →
      k (.func (.func 30) #[] #[.pointer (some ⟨q1, 0, none⟩), .pointer (some ⟨q2, 0, none⟩)]) w') :
    CALL Try.prog 11 #[.pointer (some ⟨b, 0, none⟩), .int .i64 now] k w := by
  obtain ⟨hn1, hn2, hn3⟩ := hn
  obtain ⟨bm, bl, ba, bd, h⟩ := Pls.out (hw.find (A := Pls) b)
  have okL : OkT s.late := Tab.ok (h.sub (l' := own Tab bl s.late :: r))
  have okA : OkT s.ask := Tab.ok (h.sub (l' := own Tab ba s.ask :: r))
  have okD : OkT s.dead := Tab.ok (h.sub (l' := own Tab bd s.dead :: r))
  have inL : ∀ x ∈ s.late, inI x.1 := Tab.inI (h.sub (l' := own Tab bl s.late :: r))
  have inA : ∀ x ∈ s.ask, inI x.1 := Tab.inI (h.sub (l' := own Tab ba s.ask :: r))
  have inD : ∀ x ∈ s.dead, inI x.1 := Tab.inI (h.sub (l' := own Tab bd s.dead :: r))
  apply f11.call
  unfold f11.b
  refine AL_r h fun q3 w1 h1 => AL_r h1 fun q4 w2 h2 => LD_r h2 (x := some ⟨b, 0, none⟩) rfl (brF rfl ?_)
  refine AL_r h2 fun q6 w3 h3 => ?_
  replace h3 := Mp.new h3
  refine AL_r h3 fun q7 w4 h4 => ?_
  refine ST_r h4 (by simp) rfl fun w5 h5 => ?_
  simp only [List.setIfInBounds_toArray, List.set_cons_zero] at h5
  clear h1 h2 h3 h4 hw
  repeat (first | (refine brF rfl ?_) | (refine brT rfl ?_) | (refine NN_r ?_) | (apply LD_r (by assumption); case hi => rfl) | (refine DR_r (by assumption) ?_; intro w hw) | (refine AL_r (by assumption) ?_; intro q w hw) | (apply ST_r (by assumption); (case hi => simp); (case hv => rfl); intro w hw; (try simp only [List.setIfInBounds_toArray, List.set_cons_zero, List.set_cons_succ, Nat.reduceAdd, Nat.zero_add] at hw)) | (refine MD_i (by assumption) ?_; intro w hw) | (apply MU_i (by assumption) <;> (first | assumption | (intro w hw))))
  refine due_c hw (by omega) fun q s1 w6 h6 => ⟨_, rfl, ?_⟩
  have hdl : (dueT now s.late).length ≤ s.late.length := List.length_filter_le _ _
  have hda : (dueT now s.ask).length ≤ s.ask.length := List.length_filter_le _ _
  have hdd : (dueT now s.dead).length ≤ s.dead.length := List.length_filter_le _ _
  refine f11.R2_rule rfl Try.call36 h6 fun rec L D w yl h7 => ?_
  refine iter36 (xs := dueT now s.late) (s := s1) (by omega) L (fun i l' => l' = own Blk L (.loop (rec .ready none)) :: own Blk D (.deferred (some [])) :: own Mp q6 (setAll 1 ((dKeys now s.late).take i) fun _ => none) :: own Blk q7 (.cells #[.map (some q6)] 53 (0, 0)) ::
    own Blk q3 (.cells #[.pointer (some ⟨b, 0, none⟩)] 24 (0, 0)) :: own Blk q4 (.cells #[.int .i64 now] 3 (0, 0)) :: own Blk b (.cells #[.int .i64 s.ping, .int .i64 s.grace, .int .i64 s.reg, .map (some bm), .pointer (some ⟨bl, 0, none⟩), .pointer (some ⟨ba, 0, none⟩), .pointer (some ⟨bd, 0, none⟩)] 57 (0, 0)) ::
    own Mp bm s.last :: own Tab bl s.late :: own Tab ba s.ask :: own Tab bd s.dead :: r) (fun _ => False) _ _ _ rfl ?_ ?_ ?_ (fun _ h => h.elim)
  · exact (show SatL w (own Blk q (.cells #[slv s1] 67 (0, 0)) :: own (Row 2 72) s1 (encs (dueT now s.late)) :: own Blk L (.loop (rec .ready none)) :: own Blk D (.deferred (some [])) :: own Mp q6 (fun _ => none) :: own Blk q7 (.cells #[.map (some q6)] 53 (0, 0)) ::
      own Blk q3 (.cells #[.pointer (some ⟨b, 0, none⟩)] 24 (0, 0)) :: own Blk q4 (.cells #[.int .i64 now] 3 (0, 0)) :: own Blk b (.cells #[.int .i64 s.ping, .int .i64 s.grace, .int .i64 s.reg, .map (some bm), .pointer (some ⟨bl, 0, none⟩), .pointer (some ⟨ba, 0, none⟩), .pointer (some ⟨bd, 0, none⟩)] 57 (0, 0)) ::
      own Mp bm s.last :: own Tab bl s.late :: own Tab ba s.ask :: own Tab bd s.dead :: r) from h7.sub)
  · rintro i x w l hx rfl hw
    have hxm : x ∈ s.late := (List.mem_filter.1 (List.mem_of_getElem? hx)).1
    refine yl (hw.find (A := Blk) L) ?_
    unfold f11.R2
    refine BG_n hw fun w2 h2 => ?_
    unfold f11.R2b
    refine LD_r h2 (x := some q6) rfl (MU_i h2 (inL x hxm) fun w3 h3 => rdE_n h3 fun w4 h4 => .inl ⟨rfl, _, rfl, ?_⟩)
    rw [dKeys_take hx, setAll_app, setAll_one]
    exact h4.sub
  rintro l w rfl hw
  rw [List.take_of_length_le (by simp [dKeys])] at hw
  refine ⟨_, hw.find (A := Blk) L, fun w h8 => ?_⟩
  clear hw h7 h6
  unfold f11.R2A f11.J1
  refine DRC_s h8 [own Blk q3 (.cells #[.pointer (some ⟨b, 0, none⟩)] 24 (0, 0)), own Blk q4 (.cells #[.int .i64 now] 3 (0, 0)), own Blk b (.cells #[.int .i64 s.ping, .int .i64 s.grace, .int .i64 s.reg, .map (some bm), .pointer (some ⟨bl, 0, none⟩), .pointer (some ⟨ba, 0, none⟩), .pointer (some ⟨bd, 0, none⟩)] 57 (0, 0))] fun w h9 => ?_
  refine STL_r (x := some ⟨b, 0, none⟩) rfl (NN_r (STL_r (x := some ⟨ba, 0, none⟩) rfl (STL_r (x := now) rfl ?_)))
  refine take_c h9 (by omega) fun s2 w h10 => ⟨_, rfl, SatL.sub h10, _, fun w' _ => ⟨rfl, rfl⟩, ?_⟩
  have hl2 : (dueT now s.ask).length = s2.2.1 := by
    have := Row.len (h10.sub (l' := own (Row 1 3) s2 (encK (dueT now s.ask)) :: r))
    simpa using this
  refine f11.L4_rule (fun n w => ∃ i : Nat, n = i ∧ i ≤ (dueT now s.ask).length ∧ SatL w (own Mp q6 (setAll 2 ((dKeys now s.ask).take i) (setAll 1 (dKeys now s.late) fun _ => none)) :: own (Row 1 3) s2 (encK (dueT now s.ask)) :: own Tab ba (keepT now s.ask) :: own Blk D (.deferred (some [])) :: own Blk q7 (.cells #[.map (some q6)] 53 (0, 0)) ::
    own Blk q3 (.cells #[.pointer (some ⟨b, 0, none⟩)] 24 (0, 0)) :: own Blk q4 (.cells #[.int .i64 now] 3 (0, 0)) :: own Blk b (.cells #[.int .i64 s.ping, .int .i64 s.grace, .int .i64 s.reg, .map (some bm), .pointer (some ⟨bl, 0, none⟩), .pointer (some ⟨ba, 0, none⟩), .pointer (some ⟨bd, 0, none⟩)] 57 (0, 0)) ::
    own Mp bm s.last :: own Tab bl s.late :: own Tab bd s.dead :: r)) (fun n _ => s2.2.1 - n.toNat) ⟨0, rfl, Nat.zero_le _,
    (show SatL w (own Mp q6 (setAll 1 (dKeys now s.late) fun _ => none) :: own (Row 1 3) s2 (encK (dueT now s.ask)) :: own Tab ba (keepT now s.ask) :: own Blk D (.deferred (some [])) :: own Blk q7 (.cells #[.map (some q6)] 53 (0, 0)) ::
    own Blk q3 (.cells #[.pointer (some ⟨b, 0, none⟩)] 24 (0, 0)) :: own Blk q4 (.cells #[.int .i64 now] 3 (0, 0)) :: own Blk b (.cells #[.int .i64 s.ping, .int .i64 s.grace, .int .i64 s.reg, .map (some bm), .pointer (some ⟨bl, 0, none⟩), .pointer (some ⟨ba, 0, none⟩), .pointer (some ⟨bd, 0, none⟩)] 57 (0, 0)) ::
    own Mp bm s.last :: own Tab bl s.late :: own Tab bd s.dead :: r) from h10.sub)⟩ ?_
  rintro n w ⟨i, rfl, hi, h11⟩
  clear h10 h9 h8
  unfold f11.L4
  refine brD (fun hlt => ?_) fun hge => ?_
  · have hlt' : i < (dueT now s.ask).length := by omega
    have hx := List.getElem?_eq_getElem hlt'
    rcases Row.out (h11.sub (l' := own (Row 1 3) s2 (encK (dueT now s.ask)) :: r)) with ⟨rfl, _⟩ | ⟨b2, n2, c2, sp, rfl, _, _, _, h12⟩
    · simp only at hl2; omega
    · simp only at hl2
      refine ⟨_, rfl, by omega, by simp only; omega, ?_⟩
      rw [Addr.add_mk, Nat.zero_add, Nat.mul_one, Int.toNat_natCast]
      refine LD_get (x := ((dueT now s.ask)[i]).1) h12.get (by rw [List.getElem?_toArray, List.getElem?_append_left (by simpa using hlt')]; simp [encK, hx]) ?_
      have hxm : (dueT now s.ask)[i] ∈ s.ask := (List.mem_filter.1 (List.getElem_mem hlt')).1
      refine LD_r h11 (x := some q6) rfl (MU_i h11 (inA _ hxm) fun w h13 => ?_)
      rw [show IntKind.wrap .i64 ((i : Int) + 1) = ((i + 1 : Nat) : Int) by rw [w64'] <;> omega]
      refine f11.L4_next ⟨i + 1, rfl, by omega, ?_⟩ (by simp only [Int.toNat_natCast]; omega)
      rw [dKeys_take hx, setAll_app, setAll_one]
      exact h13.sub
  · obtain rfl : i = (dueT now s.ask).length := by omega
    rw [List.take_of_length_le (by simp [dKeys])] at h11
    have h11' : SatL w (own Mp q6 (s.what1 now) :: own Tab ba (keepT now s.ask) :: own Blk D (.deferred (some [])) :: own Blk q7 (.cells #[.map (some q6)] 53 (0, 0)) ::
      own Blk q3 (.cells #[.pointer (some ⟨b, 0, none⟩)] 24 (0, 0)) :: own Blk q4 (.cells #[.int .i64 now] 3 (0, 0)) :: own Blk b (.cells #[.int .i64 s.ping, .int .i64 s.grace, .int .i64 s.reg, .map (some bm), .pointer (some ⟨bl, 0, none⟩), .pointer (some ⟨ba, 0, none⟩), .pointer (some ⟨bd, 0, none⟩)] 57 (0, 0)) ::
      own Mp bm s.last :: own Tab bl s.late :: own Tab bd s.dead :: r) := (show SatL w (own Mp q6 (setAll 2 (dKeys now s.ask) (setAll 1 (dKeys now s.late) fun _ => none)) :: _) from h11.sub)
    clear h11
    unfold f11.J3
    repeat (first | (refine brF rfl ?_) | (refine brT rfl ?_) | (refine NN_r ?_) | (apply LD_r (by assumption); case hi => rfl) | (refine DR_r (by assumption) ?_; intro w hw) | (refine AL_r (by assumption) ?_; intro q w hw) | (apply ST_r (by assumption); (case hi => simp); (case hv => rfl); intro w hw; (try simp only [List.setIfInBounds_toArray, List.set_cons_zero, List.set_cons_succ, Nat.reduceAdd, Nat.zero_add] at hw)) | (refine MD_i (by assumption) ?_; intro w hw) | (apply MU_i (by assumption) <;> (first | assumption | (intro w hw))))
    refine due_c hw (by omega) fun q' s3 w h14 => ⟨_, rfl, ?_⟩
    refine f11.R6_rule rfl Try.call36 h14 fun rec L D2 w yl h15 => ?_
    have hkl : (keepT now s.ask).length ≤ s.ask.length := List.length_filter_le _ _
    refine iter36 (xs := dueT now s.dead) (s := s3) (by omega) L (fun i l' => l' = own Blk L (.loop (rec .ready none)) :: own Blk D2 (.deferred (some [])) :: own Mp q6 (setAll 3 ((dKeys now s.dead).take i) (s.what1 now)) :: own Tab ba (askAfter now (dKeys now s.ask) ((dKeys now s.dead).take i) (keepT now s.ask)) ::
      own Blk D (.deferred (some [])) :: own Blk q7 (.cells #[.map (some q6)] 53 (0, 0)) ::
      own Blk q3 (.cells #[.pointer (some ⟨b, 0, none⟩)] 24 (0, 0)) :: own Blk q4 (.cells #[.int .i64 now] 3 (0, 0)) :: own Blk b (.cells #[.int .i64 s.ping, .int .i64 s.grace, .int .i64 s.reg, .map (some bm), .pointer (some ⟨bl, 0, none⟩), .pointer (some ⟨ba, 0, none⟩), .pointer (some ⟨bd, 0, none⟩)] 57 (0, 0)) ::
      own Mp bm s.last :: own Tab bl s.late :: own Tab bd s.dead :: r) (fun _ => False) _ _ _ rfl ?_ ?_ ?_ (fun _ h => h.elim)
    · exact (show SatL w (own Blk q' (.cells #[slv s3] 67 (0, 0)) :: own (Row 2 72) s3 (encs (dueT now s.dead)) :: own Blk L (.loop (rec .ready none)) :: own Blk D2 (.deferred (some [])) :: own Mp q6 (s.what1 now) :: own Tab ba (keepT now s.ask) ::
        own Blk D (.deferred (some [])) :: own Blk q7 (.cells #[.map (some q6)] 53 (0, 0)) ::
        own Blk q3 (.cells #[.pointer (some ⟨b, 0, none⟩)] 24 (0, 0)) :: own Blk q4 (.cells #[.int .i64 now] 3 (0, 0)) :: own Blk b (.cells #[.int .i64 s.ping, .int .i64 s.grace, .int .i64 s.reg, .map (some bm), .pointer (some ⟨bl, 0, none⟩), .pointer (some ⟨ba, 0, none⟩), .pointer (some ⟨bd, 0, none⟩)] 57 (0, 0)) ::
        own Mp bm s.last :: own Tab bl s.late :: own Tab bd s.dead :: r) from h15.sub)
    · rintro i x w l hx rfl hw
      have hxm : x ∈ s.dead := (List.mem_filter.1 (List.mem_of_getElem? hx)).1
      have hlti : i < (dueT now s.dead).length := (List.getElem?_eq_some_iff.1 hx).1
      refine yl (hw.find (A := Blk) L) ?_
      unfold f11.R6
      have hnew : x.1 ∉ (dKeys now s.dead).take i := by
        have hnd : (dKeys now s.dead).Nodup := (List.filter_sublist.map _).nodup okD.nodup
        intro hm
        have e := dKeys_take hx
        have h2 := (List.take_sublist (i + 1) (dKeys now s.dead)).nodup hnd
        rw [e, List.nodup_append] at h2
        exact h2.2.2 _ hm _ (List.mem_singleton.2 rfl) rfl
      have hfin : ∀ (w : World) (r0 : Option Nat) (A : List (Int × Int)), A = askAfter now (dKeys now s.ask) ((dKeys now s.dead).take (i + 1)) (keepT now s.ask) →
          SatL w (own Tab ba A :: own Blk L (.loop (rec .busy none)) :: own Blk q' (.cells #[slv s3] 67 (0, 0)) :: own (Row 2 72) s3 (encs (dueT now s.dead)) :: own Blk D2 (.deferred (some [])) :: own Mp q6 (setAll 3 ((dKeys now s.dead).take i) (s.what1 now)) ::
            own Blk D (.deferred (some [])) :: own Blk q7 (.cells #[.map (some q6)] 53 (0, 0)) ::
            own Blk q3 (.cells #[.pointer (some ⟨b, 0, none⟩)] 24 (0, 0)) :: own Blk q4 (.cells #[.int .i64 now] 3 (0, 0)) :: own Blk b (.cells #[.int .i64 s.ping, .int .i64 s.grace, .int .i64 s.reg, .map (some bm), .pointer (some ⟨bl, 0, none⟩), .pointer (some ⟨ba, 0, none⟩), .pointer (some ⟨bd, 0, none⟩)] 57 (0, 0)) ::
            own Mp bm s.last :: own Tab bl s.late :: own Tab bd s.dead :: r) → f11.J7 q7 x.1 r0 (rdE L rec (fun v w' => (v = .bool true ∧ ∃ l', (l' = own Blk L (.loop (rec .ready none)) :: own Blk D2 (.deferred (some [])) :: own Mp q6 (setAll 3 ((dKeys now s.dead).take (i + 1)) (s.what1 now)) :: own Tab ba (askAfter now (dKeys now s.ask) ((dKeys now s.dead).take (i + 1)) (keepT now s.ask)) ::
      own Blk D (.deferred (some [])) :: own Blk q7 (.cells #[.map (some q6)] 53 (0, 0)) ::
      own Blk q3 (.cells #[.pointer (some ⟨b, 0, none⟩)] 24 (0, 0)) :: own Blk q4 (.cells #[.int .i64 now] 3 (0, 0)) :: own Blk b (.cells #[.int .i64 s.ping, .int .i64 s.grace, .int .i64 s.reg, .map (some bm), .pointer (some ⟨bl, 0, none⟩), .pointer (some ⟨ba, 0, none⟩), .pointer (some ⟨bd, 0, none⟩)] 57 (0, 0)) ::
      own Mp bm s.last :: own Tab bl s.late :: own Tab bd s.dead :: r) ∧ SatL w' ([own Blk q' (.cells #[slv s3] 67 (0, 0)), own (Row 2 72) s3 (encs (dueT now s.dead))] ++ l')) ∨ (v = .bool false ∧ False))) w := by
        intro w r0 A hA h2
        unfold f11.J7
        refine LD_r h2 (x := some q6) rfl (MU_i h2 (inD x hxm) fun w3 h3 => rdE_n h3 fun w4 h4 => .inl ⟨rfl, _, rfl, ?_⟩)
        rw [← hA, dKeys_take hx, setAll_app, setAll_one]
        exact h4.sub
      refine BG_n hw fun w2 h2 => ?_
      unfold f11.R6b
      refine LD_r h2 (x := some q6) rfl (LK_i h2 ⟨_, rfl, ?_⟩)
      rw [setAll_eq, if_neg hnew]
      have hv : (s.what1 now x.1).getD 0 = 2 ↔ x.1 ∈ dKeys now s.ask := by
        unfold PS.what1
        rw [setAll_eq, setAll_eq]
        by_cases h5 : x.1 ∈ dKeys now s.ask
        · simp [h5]
        · by_cases h6 : x.1 ∈ dKeys now s.late <;> simp [h5, h6]
      refine brE (fun he => ?_) fun he => ?_
      · have h5 := hv.1 he
        have hln := askAfter_len now (dKeys now s.ask) ((dKeys now s.dead).take i) (keepT now s.ask)
        have hln2 : ((dKeys now s.dead).take i).length ≤ i := List.length_take_le _ _
        clear hw
        repeat (first | (refine brF rfl ?_) | (refine brT rfl ?_) | (refine NN_r ?_) | (apply LD_r (by assumption); case hi => rfl) | (refine DR_r (by assumption) ?_; intro w hw) | (refine AL_r (by assumption) ?_; intro q w hw) | (apply ST_r (by assumption); (case hi => simp); (case hv => rfl); intro w hw; (try simp only [List.setIfInBounds_toArray, List.set_cons_zero, List.set_cons_succ, Nat.reduceAdd, Nat.zero_add] at hw)) | (refine MD_i (by assumption) ?_; intro w hw) | (apply MU_i (by assumption) <;> (first | assumption | (intro w hw))))
        refine set_c hw (by omega) (inD x hxm) fun w3 h3 => ⟨rfl, ?_⟩
        refine hfin _ _ (insT x.1 now (delT x.1 (askAfter now (dKeys now s.ask) ((dKeys now s.dead).take i) (keepT now s.ask)))) ?_ h3.sub
        rw [dKeys_take hx, askAfter_app, if_pos h5]
      · have h5 : x.1 ∉ dKeys now s.ask := fun h6 => he (hv.2 h6)
        refine hfin _ _ (askAfter now (dKeys now s.ask) ((dKeys now s.dead).take i) (keepT now s.ask)) ?_ h2.sub
        rw [dKeys_take hx, askAfter_app, if_neg h5]
    · rintro l w rfl hw
      rw [List.take_of_length_le (by simp [dKeys])] at hw
      refine ⟨_, hw.find (A := Blk) L, fun w h8 => ?_⟩
      clear hw h15 h14
      unfold f11.R6A f11.J5
      refine LD_r h8 (x := some q6) rfl ?_
      apply f29.call
      unfold f29.b
      refine AL_r h8 fun q8 w h9 => ⟨_, rfl, ?_⟩
      have hL := dKeys_len now s.late
      have hA := dKeys_len now s.ask
      have hD := dKeys_len now s.dead
      refine sorted_c (m := s.what now) (dom := dKeys now s.dead ++ dKeys now s.ask ++ dKeys now s.late) (bm := q6) (show SatL w (own Blk q8 (.cells #[.map (some q6)] 53 (0, 0)) :: own Mp q6 (s.what now) :: own Tab ba (s.due now).ask ::
        own Blk D2 (.deferred (some [])) :: own Blk D (.deferred (some [])) :: own Blk q7 (.cells #[.map (some q6)] 53 (0, 0)) ::
        own Blk b (.cells #[.int .i64 s.ping, .int .i64 s.grace, .int .i64 s.reg, .map (some bm), .pointer (some ⟨bl, 0, none⟩), .pointer (some ⟨ba, 0, none⟩), .pointer (some ⟨bd, 0, none⟩)] 57 (0, 0)) ::
        own Mp bm s.last :: own Tab bl s.late :: own Tab bd s.dead :: r) from (show SatL w (own Blk q8 (.cells #[.map (some q6)] 53 (0, 0)) :: own Mp q6 (setAll 3 (dKeys now s.dead) (s.what1 now)) :: own Tab ba (askAfter now (dKeys now s.ask) (dKeys now s.dead) (keepT now s.ask)) ::
        own Blk D2 (.deferred (some [])) :: own Blk D (.deferred (some [])) :: own Blk q7 (.cells #[.map (some q6)] 53 (0, 0)) ::
        own Blk b (.cells #[.int .i64 s.ping, .int .i64 s.grace, .int .i64 s.reg, .map (some bm), .pointer (some ⟨bl, 0, none⟩), .pointer (some ⟨ba, 0, none⟩), .pointer (some ⟨bd, 0, none⟩)] 57 (0, 0)) ::
        own Mp bm s.last :: own Tab bl s.late :: own Tab bd s.dead :: r) from h9.sub)) ?_ ?_ fun sl ids w hp hm h10 => ⟨sl, rfl, ?_⟩
      · exact fun x hx => what_dom hx
      · simp only [List.length_append]; omega
      · refine AL_r h10 fun q9 w h11 => ST_r h11 (by simp) rfl fun w h12 => ?_
        simp only [List.setIfInBounds_toArray, List.set_cons_zero] at h12
        refine closeD_r h12 fun w h13 => closeD_r h13 fun w h14 => hk q9 q7 q6 sl ids w hp hm ?_
        have h15 := Pls.mk (s := s.due now) (b := b) (bm := bm) (bl := bl) (ba := ba) (bd := bd) (r := own Blk q9 (.cells #[slv sl] 61 (0, 0)) :: own (Row 1 3) sl (ids.map (Value.int .i64)) :: own Blk q7 (.cells #[.map (some q6)] 53 (0, 0)) :: own Mp q6 (s.what now) :: r) (w := w) (by dsimp only [PS.due] at h14 ⊢; exact h14.sub)
        exact h15.sub
end
end Go.Proofs.Ytnaeabcaennbjaa
