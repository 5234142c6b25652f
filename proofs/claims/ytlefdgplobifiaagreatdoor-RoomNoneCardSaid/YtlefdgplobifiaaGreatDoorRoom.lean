/- A room as a chunk: what its methods do, but Change and Modes. -/
import Derived.Test.YtlefdgplobifiaaGreatDoorSetZ
import Derived.Test.YtlefdgplobifiaaGreatDoorVal2
import Derived.Test.YtlefdgplobifiaaGreatDoorInsM
import Derived.Test.YtlefdgplobifiaaGreatDoorDelM
import Derived.Test.YtlefdgplobifiaaGreatDoorCloM
import Derived.Test.YtlefdgplobifiaaGreatDoorCloS
set_option linter.unusedVariables false
set_option linter.unusedSimpArgs false
namespace Go.Proofs.YtlefdgplobifiaaGreatDoor
open Go
structure RS where
  name : List UInt8
  maxBans : Int
  members : List Mb
  topic : List UInt8
  flags : Int
  key : List UInt8
  limit : Int
  bans : List (List UInt8)
  inv : List Int
def RmC (b : Nat) (s : RS) : HProp := fun h => ∃ sm sb bi, s.members.Pairwise (·.1 < ·.1) ∧ sepL [own Blk b (.cells #[.string (St s.name), .int .i64 s.maxBans, slv sm, .string (St s.topic), .int .i64 s.flags, .string (St s.key), .int .i64 s.limit, slv sb, .pointer (some ⟨bi, 0, none⟩)] 68 (0, 0)),
  own (Row 3 39) sm (encF encM s.members), own (Row 1 9) sb (encF encS s.bans), own SetC bi s.inv] h
/-- Where a member stands. -/
def mAt (id : Int) (xs : List Mb) : Option Mb := xs.find? (·.1 == id)
def mAdd (id : Int) (op : Bool) (xs : List Mb) : List Mb := if (mAt id xs).isSome then xs else xs.filter (·.1 < id) ++ [(id, op, false)] ++ xs.filter (id < ·.1)
def mDrop (id : Int) (xs : List Mb) : List Mb := xs.filter (·.1 ≠ id)
def RS.add (s : RS) (id : Int) (op : Bool) : RS := if (mAt id s.members).isSome then s else { s with members := mAdd id op s.members, inv := sRem id s.inv }
def RS.drop (s : RS) (id : Int) : RS := { s with members := mDrop id s.members }
def RS.setTopic (s : RS) (t : List UInt8) : RS := { s with topic := cleanB t (Int.toNat 200) }
def RS.invite (s : RS) (id : Int) : RS := { s with inv := sAdd id s.inv }
theorem mcut_at {xs : List Mb} {id : Int} {i : Nat} (hi : i ≤ xs.length) (h1 : ∀ (m : Nat) y, m < i → xs[m]? = some y → y.1 < id) (h2 : ∀ (m : Nat) y, i ≤ m → xs[m]? = some y → ¬ y.1 < id) :
    xs.take i = xs.filter (·.1 < id) ∧ xs.drop i = xs.filter (fun y => ¬ y.1 < id) := by
  have ha : ∀ y ∈ xs.take i, y.1 < id := fun y hy => by
    obtain ⟨m, hm⟩ := List.mem_iff_getElem?.1 hy
    have hlt : m < i := by
      have := (List.getElem?_eq_some_iff.1 hm).1
      rw [List.length_take] at this; omega
    rw [List.getElem?_take, if_pos hlt] at hm
    exact h1 m y hlt hm
  have hb : ∀ y ∈ xs.drop i, ¬ y.1 < id := fun y hy => by
    obtain ⟨m, hm⟩ := List.mem_iff_getElem?.1 hy
    rw [List.getElem?_drop] at hm
    exact h2 (i + m) y (by omega) hm
  have e := List.take_append_drop i xs
  have f1 : xs.filter (·.1 < id) = (xs.take i).filter (·.1 < id) ++ (xs.drop i).filter (·.1 < id) := by rw [← List.filter_append, e]
  have f2 : xs.filter (fun y => ¬ y.1 < id) = (xs.take i).filter (fun y => ¬ y.1 < id) ++ (xs.drop i).filter (fun y => ¬ y.1 < id) := by rw [← List.filter_append, e]
  rw [f1, f2]
  rw [List.filter_eq_self.2 (fun y hy => by simpa using ha y hy), List.filter_eq_nil_iff.2 (fun y hy => by simpa using hb y hy), List.filter_eq_nil_iff.2 (fun y hy => by simpa using ha y hy), List.filter_eq_self.2 (fun y hy => by simpa using hb y hy)]
  simp
theorem mAt_get {xs : List Mb} {id : Int} {i : Nat} (hs : xs.Pairwise (·.1 < ·.1)) (h1 : ∀ (m : Nat) y, m < i → xs[m]? = some y → y.1 < id) (h2 : ∀ (m : Nat) y, i ≤ m → xs[m]? = some y → ¬ y.1 < id) :
    mAt id xs = if (xs[i]?).map (·.1) = some id then xs[i]? else none := by
  have hf : ∀ y ∈ xs.take i, (y.1 == id) = false := fun y hy => by
    obtain ⟨m, hm⟩ := List.mem_iff_getElem?.1 hy
    have hlt : m < i := by
      have := (List.getElem?_eq_some_iff.1 hm).1
      rw [List.length_take] at this; omega
    rw [List.getElem?_take, if_pos hlt] at hm
    have := h1 m y hlt hm
    simp; omega
  have e : mAt id xs = (xs.drop i).find? (·.1 == id) := by
    unfold mAt
    conv => lhs; rw [← List.take_append_drop i xs]
    rw [List.find?_append, List.find?_eq_none.2 (fun y hy => by simp [hf y hy])]; rfl
  rw [e]
  by_cases hlt : i < xs.length
  · rw [List.drop_eq_getElem_cons hlt, List.getElem?_eq_getElem hlt, List.find?_cons]
    by_cases hid : xs[i].1 = id
    · simp [hid]
    · simp only [hid, beq_iff_eq, Option.map_some, Option.some.injEq, if_false]
      rw [show (xs[i].1 == id) = false by simp [hid]]
      simp only
      rw [List.find?_eq_none]
      intro y hy
      obtain ⟨m, hm⟩ := List.mem_iff_getElem?.1 hy
      rw [List.getElem?_drop] at hm
      have h3 := pw_get hs (show i < i + 1 + m by omega) (List.getElem?_eq_getElem hlt) hm
      have h4 := h2 i xs[i] (Nat.le_refl _) (List.getElem?_eq_getElem hlt)
      simp; omega
  · rw [List.drop_of_length_le (by omega), List.getElem?_eq_none (by omega)]; simp
section
variable {w : World} {l r r1 : List HProp} {k : Value → World → Prop} {b : Nat} {s : RS} {id : Int}
theorem RmC.out (h : SatL w (own RmC b s :: r)) : ∃ sm sb bi, s.members.Pairwise (·.1 < ·.1) ∧ SatL w (own Blk b (.cells #[.string (St s.name), .int .i64 s.maxBans, slv sm, .string (St s.topic), .int .i64 s.flags, .string (St s.key), .int .i64 s.limit, slv sb, .pointer (some ⟨bi, 0, none⟩)] 68 (0, 0)) ::
    own (Row 3 39) sm (encF encM s.members) :: own (Row 1 9) sb (encF encS s.bans) :: own SetC bi s.inv :: r) := by
  obtain ⟨x, y, h1, h2, ⟨sm, sb, bi, hs, h3⟩, h4⟩ := h
  exact ⟨sm, sb, bi, hs, sepL_append.2 ⟨x, y, h1, h2, h3, h4⟩⟩
theorem RmC.mk {sm sb : Sl} {bi : Nat} (h : SatL w (own Blk b (.cells #[.string (St s.name), .int .i64 s.maxBans, slv sm, .string (St s.topic), .int .i64 s.flags, .string (St s.key), .int .i64 s.limit, slv sb, .pointer (some ⟨bi, 0, none⟩)] 68 (0, 0)) ::
    own (Row 3 39) sm (encF encM s.members) :: own (Row 1 9) sb (encF encS s.bans) :: own SetC bi s.inv :: r)) (hs : s.members.Pairwise (·.1 < ·.1)) : SatL w (own RmC b s :: r) :=
  SatL.shut (L := [_, _, _, _]) h fun x hx => ⟨sm, sb, bi, hs, hx⟩
def RS.small (s : RS) : Prop := s.members.length ≤ 1000000 ∧ s.bans.length ≤ 1000000 ∧ s.inv.length ≤ 1000000
theorem rnew_c {nm : List UInt8} {n : Int} (hw : SatL w l) (hk : ∀ b w', SatL w' (own RmC b ⟨nm, n, [], [], 20, [], 0, [], []⟩ :: l) → k (.pointer (some ⟨b, 0, none⟩)) w') : CALL Tryz.prog 9 #[.string (St nm), .int .i64 n] k w := by
  apply f9.call
  unfold f9.b
  refine setNew_c hw fun bi w h => ⟨_, rfl, AL_r h fun q w h => hk q w ?_⟩
  have h2 := Row.nil (sz := 3) (t := 39) (Row.nil (sz := 1) (t := 9) h)
  exact RmC.mk (s := ⟨nm, n, [], [], 20, [], 0, [], []⟩) (sm := (none, 0, 0)) (sb := (none, 0, 0)) (bi := bi) (show SatL w (own Blk q _ :: own (Row 3 39) (none, 0, 0) [] :: own (Row 1 9) (none, 0, 0) [] :: own SetC bi [] :: l) from h2.sub) List.Pairwise.nil
/-- at: of an open room. -/
theorem rat_c {sm : Sl} {xs : List Mb} {c0 c1 c3 c4 c5 c6 c7 c8 : Value} (hw : SatL w l) [f : FindO l Blk b (.cells #[c0, c1, slv sm, c3, c4, c5, c6, c7, c8] 68 (0, 0)) r1] [g : FindO l (Row 3 39) sm (encF encM xs) r] (hn : xs.length ≤ 1000000) (hs : xs.Pairwise (·.1 < ·.1))
    (hk : ∀ (i : Nat) w', i ≤ xs.length → xs.take i = xs.filter (·.1 < id) → xs.drop i = xs.filter (fun y => ¬ y.1 < id) → (mAt id xs = if (xs[i]?).map (·.1) = some id then xs[i]? else none) →
      SatL w' l → k (.tuple #[.int .i64 i, .bool (mAt id xs).isSome]) w') :
    CALL Tryz.prog 39 #[.pointer (some ⟨b, 0, none⟩), .int .i64 id] k w := by
  apply f39.call
  unfold f39.b
  refine brF rfl (NN_r (LD_r hw (x := sm) rfl (binM_c hw (by omega) hs fun i w hi h1 h2 h => ⟨_, _, rfl, ?_⟩)))
  obtain ⟨ht, hd⟩ := mcut_at hi h1 h2
  have hm := mAt_get hs h1 h2
  have e : decide ((xs[i]?).map (·.1) = some id) = (mAt id xs).isSome := by
    rw [hm]
    by_cases h3 : (xs[i]?).map (·.1) = some id
    · rw [if_pos h3, decide_eq_true h3]
      cases h4 : xs[i]? with
      | none => rw [h4] at h3; cases h3
      | some y => rfl
    · rw [if_neg h3, decide_eq_false h3]; rfl
  rw [e]
  exact hk i w hi ht hd hm h
theorem rat_nil (hk : k (.tuple #[.int .i64 0, .bool false]) w) : CALL Tryz.prog 39 #[.pointer none, .int .i64 id] k w := by
  apply f39.call
  unfold f39.b
  exact brT rfl hk
theorem mAdd_sorted {xs : List Mb} {op : Bool} (hs : xs.Pairwise (·.1 < ·.1)) : (mAdd id op xs).Pairwise (·.1 < ·.1) := by
  unfold mAdd
  split
  · exact hs
  · rw [List.append_assoc, List.pairwise_append]
    refine ⟨hs.filter _, ?_, ?_⟩
    · rw [List.singleton_append, List.pairwise_cons]
      exact ⟨fun y hy => by simpa using (List.mem_filter.1 hy).2, hs.filter _⟩
    · intro y hy z hz
      have h1 := (List.mem_filter.1 hy).2
      simp only [decide_eq_true_eq] at h1
      rw [List.singleton_append, List.mem_cons] at hz
      rcases hz with rfl | hz
      · exact h1
      · have h2 := (List.mem_filter.1 hz).2
        simp only [decide_eq_true_eq] at h2
        omega
theorem mAt_none {xs : List Mb} (h : (mAt id xs).isSome = false) : ∀ y ∈ xs, y.1 ≠ id := by
  intro y hy e
  have : mAt id xs = none := by simpa using h
  unfold mAt at this
  have := List.find?_eq_none.1 this y hy
  simp [e] at this
theorem radd_c {op : Bool} (hw : SatL w l) [f : FindO l RmC b s r] (hn : s.small) (hk : ∀ w', SatL w' (own RmC b (s.add id op) :: r) → k (.tuple #[]) w') : CALL Tryz.prog 27 #[.pointer (some ⟨b, 0, none⟩), .int .i64 id, .bool op] k w := by
  obtain ⟨n1, n2, n3⟩ := hn
  obtain ⟨sm, sb, bi, hs, h⟩ := RmC.out (hw.find (A := RmC) b)
  have hls := Row.enc_len encM_len (by omega) h.drop
  apply f27.call
  unfold f27.b
  refine rat_c h n1 hs fun i w hi ht hd hm h => ⟨_, _, rfl, brF rfl ?_⟩
  unfold RS.add at hk
  refine br (fun hc => ?_) fun hc => ?_
  · rw [if_pos hc] at hk
    exact hk _ (RmC.mk h hs)
  · rw [if_neg (by simp [hc])] at hk
    refine NN_r (LD_r h (x := sm) rfl (AL_r h fun q w h => ?_))
    refine insM_c (X := encM (id, op, false)) rfl (by intro v hv; simp [encM] at hv; rcases hv with rfl | rfl | rfl <;> rfl) (s := sm) h (by omega) (by omega) (encM_one _) fun s' w hs' h => ⟨_, rfl, NN_r ?_⟩
    rw [encF_ins encM_len] at h
    have e : s.members.take i ++ [(id, op, false)] ++ s.members.drop i = mAdd id op s.members := by
      have hne := mAt_none hc
      rw [mAdd, if_neg (by simp [hc]), ht, hd]
      congr 1
      apply List.filter_congr
      intro y hy
      have := hne y hy
      simp; omega
    rw [e] at h
    simp only [Addr.add_mk]
    refine ST_r (b := b) h (by simp) rfl fun w h => NN_r (LD_r (b := b) h (x := some ⟨bi, 0, none⟩) (by simp) (AL_r h fun q w h => ?_))
    have h2 : SatL w (own (Row 1 3) (some ⟨q, 0, none⟩, 1, 1) (encF encZ [id]) :: _) := Row.mk (cs := encF encZ [id]) (sp := []) h rfl rfl (Nat.le_refl _)
    refine srem_c (ys := [id]) h2 (by omega) (by simp) fun n w h => ⟨_, rfl, hk _ ?_⟩
    refine RmC.mk (s := { s with members := mAdd id op s.members, inv := sRem id s.inv }) (sm := s') (sb := sb) (bi := bi) ?_ (mAdd_sorted hs)
    simp only [List.setIfInBounds_toArray, List.set_cons_zero, List.set_cons_succ, Nat.reduceAdd, Nat.zero_add] at h
    dsimp only [List.foldl] at h ⊢
    exact SatL.sub h
theorem mDrop_at {xs : List Mb} {i : Nat} (hs : xs.Pairwise (·.1 < ·.1)) (hlt : i < xs.length) (hm : xs[i].1 = id) : xs.take i ++ xs.drop (i + 1) = mDrop id xs := by
  have hc : xs = xs.take i ++ xs[i] :: xs.drop (i + 1) := by
    conv => lhs; rw [← List.take_append_drop i xs, List.drop_eq_getElem_cons hlt]
  obtain ⟨x, hx⟩ : ∃ x, x = xs[i] := ⟨_, rfl⟩
  rw [← hx] at hc hm
  unfold mDrop
  conv => rhs; rw [hc]
  rw [List.filter_append, List.filter_cons]
  simp only [ne_eq, hm, not_true_eq_false, decide_false, Bool.false_eq_true, if_false]
  have hp := hs
  rw [hc, List.pairwise_append] at hp
  obtain ⟨_, hp2, hp3⟩ := hp
  rw [List.pairwise_cons] at hp2
  rw [List.filter_eq_self.2 (fun y hy => by have := hp3 y hy x (by simp); simp; omega), List.filter_eq_self.2 (fun y hy => by have := hp2.1 y hy; simp; omega)]
theorem mAt_some {xs : List Mb} {i : Nat} (hm : mAt id xs = if (xs[i]?).map (·.1) = some id then xs[i]? else none) (h : (mAt id xs).isSome = true) : ∃ hlt : i < xs.length, xs[i].1 = id ∧ mAt id xs = some xs[i] := by
  rw [hm] at h
  by_cases h2 : (xs[i]?).map (·.1) = some id
  · by_cases hlt : i < xs.length
    · rw [if_pos h2] at hm
      rw [List.getElem?_eq_getElem hlt] at h2 hm
      exact ⟨hlt, by simpa using h2, hm⟩
    · rw [List.getElem?_eq_none (by omega)] at h2; cases h2
  · rw [if_neg h2] at h; cases h
theorem mDrop_none {xs : List Mb} (h : (mAt id xs).isSome = false) : mDrop id xs = xs := List.filter_eq_self.2 fun y hy => by simpa using mAt_none h y hy
theorem rdrop_c (hw : SatL w l) [f : FindO l RmC b s r] (hn : s.small) (hk : ∀ w', SatL w' (own RmC b (s.drop id) :: r) → k (.bool (mAt id s.members).isSome) w') : CALL Tryz.prog 30 #[.pointer (some ⟨b, 0, none⟩), .int .i64 id] k w := by
  obtain ⟨n1, n2, n3⟩ := hn
  obtain ⟨sm, sb, bi, hs, h⟩ := RmC.out (hw.find (A := RmC) b)
  have hls := Row.enc_len encM_len (by omega) h.drop
  apply f30.call
  unfold f30.b
  refine rat_c h n1 hs fun i w hi ht hd hm h => ⟨_, _, rfl, ?_⟩
  unfold f30.J1
  refine br (fun hc => ?_) fun hc => ?_
  · obtain ⟨hlt, hid, _⟩ := mAt_some hm hc
    have e2 : IntKind.wrap .i64 ((i : Int) + 1) = ((i + 1 : Nat) : Int) := by rw [w64'] <;> omega
    rw [e2]
    refine NN_r (LD_r h (x := sm) rfl (delM_c (s := sm) h (by omega) (by omega) (encM_one _) fun s' w hs' h => ⟨_, rfl, NN_r ?_⟩))
    rw [encF_del encM_len, mDrop_at hs hlt hid] at h
    simp only [Addr.add_mk]
    refine ST_r (b := b) h (by simp) rfl fun w h => hk _ ?_
    refine RmC.mk (s := s.drop id) (sm := s') (sb := sb) (bi := bi) ?_ (hs.filter _)
    simp only [List.setIfInBounds_toArray, List.set_cons_zero, List.set_cons_succ, Nat.reduceAdd, Nat.zero_add] at h
    dsimp only [RS.drop]
    exact SatL.sub h
  · have := hk w (RmC.mk (s := s.drop id) (by unfold RS.drop; rw [mDrop_none hc]; exact h) (hs.filter _))
    exact this
theorem rmember_c (hw : SatL w l) [f : FindO l RmC b s r] (hn : s.small) (hk : ∀ w', SatL w' (own RmC b s :: r) → k (.tuple #[.agg #[.int .i64 ((mAt id s.members).getD (0, false, false)).1, .bool ((mAt id s.members).getD (0, false, false)).2.1, .bool ((mAt id s.members).getD (0, false, false)).2.2], .bool (mAt id s.members).isSome]) w') :
    CALL Tryz.prog 14 #[.pointer (some ⟨b, 0, none⟩), .int .i64 id] k w := by
  obtain ⟨n1, n2, n3⟩ := hn
  obtain ⟨sm, sb, bi, hs, h⟩ := RmC.out (hw.find (A := RmC) b)
  apply f14.call
  unfold f14.b
  refine AL_r h fun q w h => ?_
  refine rat_c h n1 hs fun i w hi ht hd hm h => ⟨_, _, rfl, brN (br (fun hc => ?_) fun hc => ?_)⟩
  · obtain ⟨hlt, hid, he⟩ := mAt_some hm hc
    rw [he] at hk
    refine NN_r (LD_r h (x := sm) rfl (IX_M (K := fun n b c w => ST _ (.int .i64 n) (fun w => ST _ (.bool b) (fun w => ST _ (.bool c) _ w) w) w) h (by omega) (x := s.members[i]) (by simp [hlt]) ?_))
    simp only [Addr.add_mk]
    refine ST_r (b := q) h (by simp) rfl fun w h => ST_r (b := q) h (by simp) rfl fun w h => ST_r (b := q) h (by simp) rfl fun w h => ?_
    refine LD_r (b := q) h (x := s.members[i].1) (by simp) (LD_r (b := q) h (x := s.members[i].2.1) (by simp) (LD_r (b := q) h (x := s.members[i].2.2) (by simp) ?_))
    refine hk w (RmC.mk (sm := sm) (sb := sb) (bi := bi) ?_ hs)
    exact SatL.sub h
  · have he : mAt id s.members = none := by simpa using hc
    rw [he] at hk
    simp only [Addr.add_mk]
    refine ST_r (b := q) h (by simp) rfl fun w h => ST_r (b := q) h (by simp) rfl fun w h => ST_r (b := q) h (by simp) rfl fun w h => ?_
    refine LD_r (b := q) h (x := 0) (by simp) (LD_r (b := q) h (x := false) (by simp) (LD_r (b := q) h (x := false) (by simp) ?_))
    refine hk w (RmC.mk (sm := sm) (sb := sb) (bi := bi) ?_ hs)
    exact SatL.sub h
theorem rsettopic_c {t : List UInt8} (hw : SatL w l) [f : FindO l RmC b s r] (ht : t.length < 70368744177664) (hk : ∀ w', SatL w' (own RmC b (s.setTopic t) :: r) → k (.tuple #[]) w') : CALL Tryz.prog 28 #[.pointer (some ⟨b, 0, none⟩), .string (St t)] k w := by
  obtain ⟨sm, sb, bi, hs, h⟩ := RmC.out (hw.find (A := RmC) b)
  apply f28.call
  unfold f28.b
  refine brT rfl (clean_c h ht fun w h => ⟨_, rfl, NN_r ?_⟩)
  simp only [Addr.add_mk]
  refine ST_r (b := b) h (by simp) rfl fun w h => hk _ (RmC.mk (s := s.setTopic t) (sm := sm) (sb := sb) (bi := bi) ?_ hs)
  simp only [List.setIfInBounds_toArray, List.set_cons_zero, List.set_cons_succ, Nat.reduceAdd, Nat.zero_add] at h
  dsimp only [RS.setTopic]
  exact SatL.sub h
theorem rinvite_c (hw : SatL w l) [f : FindO l RmC b s r] (hn : s.small) (hk : ∀ w', SatL w' (own RmC b (s.invite id) :: r) → k (.tuple #[]) w') : CALL Tryz.prog 29 #[.pointer (some ⟨b, 0, none⟩), .int .i64 id] k w := by
  obtain ⟨n1, n2, n3⟩ := hn
  obtain ⟨sm, sb, bi, hs, h⟩ := RmC.out (hw.find (A := RmC) b)
  apply f29.call
  unfold f29.b
  refine brT rfl (NN_r (LD_r (b := b) h (x := some ⟨bi, 0, none⟩) rfl (AL_r h fun q w h => ?_)))
  have h2 : SatL w (own (Row 1 3) (some ⟨q, 0, none⟩, 1, 1) (encF encZ [id]) :: _) := Row.mk (cs := encF encZ [id]) (sp := []) h rfl rfl (Nat.le_refl _)
  refine sadd_c (ys := [id]) h2 (by simp; omega) fun n w h => ⟨_, rfl, hk _ ?_⟩
  refine RmC.mk (s := s.invite id) (sm := sm) (sb := sb) (bi := bi) ?_ hs
  dsimp only [RS.invite, List.foldl] at h ⊢
  exact SatL.sub h
end
end Go.Proofs.YtlefdgplobifiaaGreatDoor
