/- The room's iterators, and the law's readers of them. -/
import Derived.Test.YtlefdgplobifiaaGreatDoorRoom
import Derived.Test.YtlefdgplobifiaaGreatDoorRf
import Derived.Test.YtlefdgplobifiaaGreatDoorGE
set_option linter.unusedVariables false
set_option linter.unusedSimpArgs false
namespace Go.Proofs.YtlefdgplobifiaaGreatDoor
open Go
section
variable {w : World} {l r r1 : List HProp} {k : Value → World → Prop} {b : Nat} {s : RS} {id : Int}
theorem rdE_n {L : Nat} {rec : LoopState → Option Code → Loop} {K : Value → World → Prop} (hw : SatL w l) [f : FindO l Blk L (.loop (rec .busy none)) r] (hk : ∀ w', SatL w' (own Blk L (.loop (rec .ready none)) :: r) → K (.bool true) w') : rdE L rec K .normal w :=
  ⟨r, hw.find (A := Blk) L, hk⟩
theorem BG_n {L : Nat} {rec : LoopState → Option Code → Loop} {F : World → Prop} (hw : SatL w l) [f : FindO l Blk L (.loop (rec .ready none)) r] (hk : ∀ w', SatL w' (own Blk L (.loop (rec .busy none)) :: r) → F w') : BG L rec F w :=
  ⟨r, hw.find (A := Blk) L, hk⟩
theorem DRC_s {F : (World → Prop) → World → Prop} (hw : SatL w l) (l' : List HProp) [SubH l l'] (hk : ∀ w', SatL w' l → F (fun w => SatL w l') w') : DRC F w := ⟨_, (hw.sub : SatL w l'), hk _ hw⟩
theorem iterS {q : Nat} {sl : Sl} {xs : List (List UInt8)} (hn : xs.length ≤ 100000000) :
    ITER Tryz.prog 98 #[] #[.pointer (some ⟨q, 0, none⟩)] xs (fun x => #[.string (St x)]) [own Blk q (.cells #[slv sl] 34 (0, 0)), own (Row 1 9) sl (encF encS xs)] := by
  intro L J E k w l h0 hw hy hd hE
  apply f98.call
  unfold f98.b
  have hw' : SatL w (own Blk q (.cells #[slv sl] 34 (0, 0)) :: own (Row 1 9) sl (encF encS xs) :: l) := hw
  refine LD_r hw' (x := sl) rfl ?_
  have hl := Row.enc_len encS_len (by omega) hw'.drop
  refine f98.L1_rule (fun n w => ∃ i : Nat, n = i ∧ i ≤ xs.length ∧ ∃ l', J i l' ∧ SatL w (own Blk q (.cells #[slv sl] 34 (0, 0)) :: own (Row 1 9) sl (encF encS xs) :: l')) (fun n _ => xs.length - n.toNat) ⟨0, rfl, Nat.zero_le _, l, h0, hw'⟩ ?_
  rintro n w ⟨i, rfl, hi, l', hJ, h⟩
  unfold f98.L1
  refine brD (fun hlt => ?_) fun hge => ?_
  · have hlt' : i < xs.length := by omega
    have hx : xs[i]? = some xs[i] := List.getElem?_eq_getElem hlt'
    refine IX_S h (by omega) (x := xs[i]) (by rw [Int.toNat_natCast]; exact hx) ⟨?_⟩
    refine (hy i xs[i] _ l' hx hJ h).mono ?_
    rintro v w4 (⟨rfl, l4, hJ4, h4⟩ | ⟨rfl, h4⟩)
    · refine ⟨_, rfl, brF rfl ?_⟩
      exact f98.L1_next ⟨i + 1, by rw [w64'] <;> omega, by omega, l4, hJ4, h4⟩ (by rw [w64'] <;> omega)
    · exact ⟨_, rfl, brT rfl (hE _ h4)⟩
  · have : i = xs.length := by omega
    subst this
    exact hd _ _ hJ h
theorem iterM {q : Nat} {sl : Sl} {xs : List Mb} (hn : xs.length ≤ 100000000) :
    ITER Tryz.prog 107 #[] #[.pointer (some ⟨q, 0, none⟩)] xs (fun x => #[.agg #[.int .i64 x.1, .bool x.2.1, .bool x.2.2]]) [own Blk q (.cells #[slv sl] 47 (0, 0)), own (Row 3 39) sl (encF encM xs)] := by
  intro L J E k w l h0 hw hy hd hE
  apply f107.call
  unfold f107.b
  have hw' : SatL w (own Blk q (.cells #[slv sl] 47 (0, 0)) :: own (Row 3 39) sl (encF encM xs) :: l) := hw
  refine LD_r hw' (x := sl) rfl ?_
  have hl := Row.enc_len encM_len (by omega) hw'.drop
  refine f107.L1_rule (fun n w => ∃ i : Nat, n = i ∧ i ≤ xs.length ∧ ∃ l', J i l' ∧ SatL w (own Blk q (.cells #[slv sl] 47 (0, 0)) :: own (Row 3 39) sl (encF encM xs) :: l')) (fun n _ => xs.length - n.toNat) ⟨0, rfl, Nat.zero_le _, l, h0, hw'⟩ ?_
  rintro n w ⟨i, rfl, hi, l', hJ, h⟩
  unfold f107.L1
  refine brD (fun hlt => ?_) fun hge => ?_
  · have hlt' : i < xs.length := by omega
    have hx : xs[i]? = some xs[i] := List.getElem?_eq_getElem hlt'
    refine IX_M (K := fun n b c w => AL _ (fun q w => ST _ (.int .i64 n) (fun w => ST _ (.bool b) (fun w => ST _ (.bool c) (fun w => _) w) w) w) w) h (by omega) (x := xs[i]) (by rw [Int.toNat_natCast]; exact hx) (AL_r h fun q2 w h => ?_)
    simp only [Addr.add_mk]
    refine ST_r (b := q2) h (by simp) rfl fun w h => ST_r (b := q2) h (by simp) rfl fun w h => ST_r (b := q2) h (by simp) rfl fun w h => ?_
    refine LD_r (b := q2) h (x := xs[i].1) (by simp) (LD_r (b := q2) h (x := xs[i].2.1) (by simp) (LD_r (b := q2) h (x := xs[i].2.2) (by simp) ⟨?_⟩))
    refine (hy i xs[i] _ l' hx hJ (h.drop)).mono ?_
    rintro v w4 (⟨rfl, l4, hJ4, h4⟩ | ⟨rfl, h4⟩)
    · refine ⟨_, rfl, brF rfl ?_⟩
      exact f107.L1_next ⟨i + 1, by rw [w64'] <;> omega, by omega, l4, hJ4, h4⟩ (by rw [w64'] <;> omega)
    · exact ⟨_, rfl, brT rfl (hE _ h4)⟩
  · have : i = xs.length := by omega
    subst this
    exact hd _ _ hJ h
theorem rbans_c (hw : SatL w l) [f : FindO l RmC b s r] (hn : s.small) (hk : ∀ q sl w', SatL w' (own Blk q (.cells #[slv sl] 34 (0, 0)) :: own (Row 1 9) sl (encF encS s.bans) :: own RmC b s :: r) → k (.func (.func 98) #[] #[.pointer (some ⟨q, 0, none⟩)]) w') :
    CALL Tryz.prog 38 #[.pointer (some ⟨b, 0, none⟩)] k w := by
  obtain ⟨n1, n2, n3⟩ := hn
  obtain ⟨sm, sb, bi, hs, h⟩ := RmC.out (hw.find (A := RmC) b)
  have hl := Row.enc_len encS_len (by omega) h.drop.drop
  apply f38.call
  unfold f38.b
  refine brF rfl (NN_r (LD_r h (x := sb) rfl (cloneS_c (s := sb) h (by omega) (encS_one _) fun s' w hs' h => ⟨_, rfl, ?_⟩)))
  apply f64.call
  unfold f64.b
  refine AL_r h fun q w h => ⟨_, rfl, hk q s' w ?_⟩
  have h2 : SatL w (own Blk b (.cells #[.string (St s.name), .int .i64 s.maxBans, slv sm, .string (St s.topic), .int .i64 s.flags, .string (St s.key), .int .i64 s.limit, slv sb, .pointer (some ⟨bi, 0, none⟩)] 68 (0, 0)) :: own (Row 3 39) sm (encF encM s.members) :: own (Row 1 9) sb (encF encS s.bans) :: own SetC bi s.inv :: own Blk q (.cells #[slv s'] 34 (0, 0)) :: own (Row 1 9) s' (encF encS s.bans) :: r) := h.sub
  exact (RmC.mk h2 hs).sub
theorem rmembers_c (hw : SatL w l) [f : FindO l RmC b s r] (hn : s.small) (hk : ∀ q sl w', SatL w' (own Blk q (.cells #[slv sl] 47 (0, 0)) :: own (Row 3 39) sl (encF encM s.members) :: own RmC b s :: r) → k (.func (.func 107) #[] #[.pointer (some ⟨q, 0, none⟩)]) w') :
    CALL Tryz.prog 45 #[.pointer (some ⟨b, 0, none⟩)] k w := by
  obtain ⟨n1, n2, n3⟩ := hn
  obtain ⟨sm, sb, bi, hs, h⟩ := RmC.out (hw.find (A := RmC) b)
  have hl := Row.enc_len encM_len (by omega) h.drop
  apply f45.call
  unfold f45.b
  refine brF rfl (NN_r (LD_r h (x := sm) rfl (cloneM_c (s := sm) h (by omega) (encM_one _) fun s' w hs' h => ⟨_, rfl, ?_⟩)))
  apply f78.call
  unfold f78.b
  refine AL_r h fun q w h => ⟨_, rfl, hk q s' w ?_⟩
  have h2 : SatL w (own Blk b (.cells #[.string (St s.name), .int .i64 s.maxBans, slv sm, .string (St s.topic), .int .i64 s.flags, .string (St s.key), .int .i64 s.limit, slv sb, .pointer (some ⟨bi, 0, none⟩)] 68 (0, 0)) :: own (Row 3 39) sm (encF encM s.members) :: own (Row 1 9) sb (encF encS s.bans) :: own SetC bi s.inv :: own Blk q (.cells #[slv s'] 47 (0, 0)) :: own (Row 3 39) s' (encF encM s.members) :: r) := h.sub
  exact (RmC.mk h2 hs).sub
/-- The law's reader of the bans. -/
theorem lbans_c (hw : SatL w l) [f : FindO l RmC b s r] (hn : s.small) (hb : s.bans.length ≤ 100) (hk : ∀ sl w', SatL w' (own (Row 1 9) sl (encF encS s.bans) :: own RmC b s :: r) → k (.tuple #[slv sl, .bool true]) w') :
    CALL Tryz.prog 13 #[.pointer (some ⟨b, 0, none⟩)] k w := by
  apply f13.call
  unfold f13.b
  refine AL_r (hw.find (A := RmC) b) fun q2 w h => AL_r h fun q3 w h => AL_r h fun q4 w h => ?_
  refine rbans_c h hn fun q sl w h => ⟨_, rfl, FNIL_f (brF rfl ?_)⟩
  refine f13.R2_rule rfl Tryz.call98 h fun rec L D w yl h2 => ?_
  refine iterS (xs := s.bans) (q := q) (sl := sl) (by omega) L (fun i l' => ∃ so, l' = own Blk L (.loop (rec .ready none)) :: own Blk D (.deferred (some [])) :: own Blk q4 (.cells #[slv so] 34 (0, 0)) :: own (Row 1 9) so (encF encS (s.bans.take i)) ::
    own Blk q3 (.cells #[.bool false] 4 (0, 0)) :: own Blk q2 (.cells #[slv (none, 0, 0)] 34 (0, 0)) :: own RmC b s :: r) (fun _ => False) _ _ _ ⟨(none, 0, 0), rfl⟩ ?_ ?_ ?_ (fun _ h => h.elim)
  · have h3 : SatL w (own (Row 1 9) (none, 0, 0) (encF encS (s.bans.take 0)) :: _) := Row.nil h2
    exact h3.sub
  · rintro i x w l hx ⟨so, rfl⟩ hw
    have hil : i < s.bans.length := (List.getElem?_eq_some_iff.1 hx).1
    refine yl (hw.find (A := Blk) L) ?_
    unfold f13.R2
    refine BG_n hw fun w h => ?_
    unfold f13.R2b
    have hso := Row.enc_len (xs := s.bans.take i) encS_len (by omega) (h.find (A := Row 1 9) so)
    rw [List.length_take] at hso
    refine LD_r (b := q4) h (x := so) rfl (brF (by simp; omega) (LD_r (b := q4) h (x := so) rfl (AL_r h fun q5 w h => ?_)))
    have hnew : cellsOfS w (some ⟨q5, 0, none⟩, 1, 1) (1 * 1) = some (encS x) := by
      show cellsAt w ⟨q5, 0, none⟩ 0 1 = _
      rw [cellsAt_r h.get (by simp)]
      simp [encS]
    refine APP_r (s := so) (cs := encF encS (s.bans.take i)) h (by simp) hnew rfl (by simp [encS, Value.oneCell']) (by omega) (by omega) fun s' w hs' h => ?_
    simp only [Addr.add_mk]
    refine ST_r (b := q4) h (by simp) rfl fun w h => rdE_n h fun w h => .inl ⟨rfl, _, ⟨s', rfl⟩, ?_⟩
    have e : encF encS (s.bans.take i) ++ encS x = encF encS (s.bans.take (i + 1)) := by
      rw [take_one hx, encF_app, encF_one_el]
    rw [e] at h
    simp only [List.setIfInBounds_toArray, Nat.reduceAdd, Nat.zero_add, List.set_cons_zero] at h
    exact h.sub
  · rintro l w ⟨so, rfl⟩ hw
    rw [List.take_length] at hw
    refine .inl ⟨_, hw.find (A := Blk) L, fun w h => ?_⟩
    unfold f13.R2A f13.J1
    refine LD_r (b := q4) h (x := so) rfl ?_
    simp only [Addr.add_mk]
    refine ST_r (b := q2) h (by simp) rfl fun w h => ST_r (b := q3) h (by simp) rfl fun w h => closeD_r h fun w h => ?_
    refine LD_r (b := q2) h (x := so) (by simp) (LD_r (b := q3) h (x := true) (by simp) (hk _ _ ?_))
    exact h.sub
end
end Go.Proofs.YtlefdgplobifiaaGreatDoor
