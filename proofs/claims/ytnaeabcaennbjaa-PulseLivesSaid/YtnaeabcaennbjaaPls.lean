/- The pulse as a chunk: what its methods do, but Due. -/
import Derived.Test.YtnaeabcaennbjaaTab2
import Derived.Test.YtnaeabcaennbjaaGE
set_option linter.unusedVariables false
set_option linter.unusedSimpArgs false
namespace Go.Proofs.Ytnaeabcaennbjaa
open Go
structure PS where
  ping : Int
  grace : Int
  reg : Int
  last : Int → Option Int
  late : List (Int × Int)
  ask : List (Int × Int)
  dead : List (Int × Int)
def Pls (b : Nat) (s : PS) : HProp := fun h => ∃ bm bl ba bd, sepL [own Blk b (.cells #[.int .i64 s.ping, .int .i64 s.grace, .int .i64 s.reg, .map (some bm), .pointer (some ⟨bl, 0, none⟩), .pointer (some ⟨ba, 0, none⟩), .pointer (some ⟨bd, 0, none⟩)] 57 (0, 0)),
  own Mp bm s.last, own Tab bl s.late, own Tab ba s.ask, own Tab bd s.dead] h
def PS.small (s : PS) (n : Nat) : Prop := s.late.length ≤ n ∧ s.ask.length ≤ n ∧ s.dead.length ≤ n
def PS.leave (s : PS) (id : Int) : PS := { s with last := fun x => if x = id then none else s.last x, late := delT id s.late, ask := delT id s.ask, dead := delT id s.dead }
def PS.join (s : PS) (id now : Int) : PS := { s with last := fun x => if x = id then some now else (s.leave id).last x, late := insT id (IntKind.wrap .i64 (now + s.reg)) (delT id (delT id s.late)), ask := delT id s.ask, dead := delT id s.dead }
def PS.register (s : PS) (id now : Int) : PS := if (s.last id).isSome then
  { s with last := fun x => if x = id then some now else s.last x, late := delT id s.late, ask := insT id (IntKind.wrap .i64 (now + s.ping)) (delT id s.ask), dead := insT id (IntKind.wrap .i64 (IntKind.wrap .i64 (now + s.ping) + s.grace)) (delT id s.dead) } else s
def PS.line (s : PS) (id now : Int) : PS := if (lk s.dead id).isSome then s.register id now else s
section
variable {w : World} {l r : List HProp} {k : Value → World → Prop} {b : Nat} {s : PS} {id now : Int}
theorem delT_len (id : Int) (xs : List (Int × Int)) : (delT id xs).length ≤ xs.length := List.length_filter_le _ _
theorem insT_len (id t : Int) (xs : List (Int × Int)) : (insT id t xs).length = xs.length + 1 := by
  unfold insT
  induction xs with
  | nil => rfl
  | cons x xs ih =>
    simp only [List.filter_cons]
    split <;> rename_i h <;> simp [h] at ih ⊢ <;> omega
theorem Pls.out (h : SatL w (own Pls b s :: r)) : ∃ bm bl ba bd, SatL w (own Blk b (.cells #[.int .i64 s.ping, .int .i64 s.grace, .int .i64 s.reg, .map (some bm), .pointer (some ⟨bl, 0, none⟩), .pointer (some ⟨ba, 0, none⟩), .pointer (some ⟨bd, 0, none⟩)] 57 (0, 0)) ::
    own Mp bm s.last :: own Tab bl s.late :: own Tab ba s.ask :: own Tab bd s.dead :: r) := by
  obtain ⟨x, y, h1, h2, ⟨bm, bl, ba, bd, h3⟩, h4⟩ := h
  exact ⟨bm, bl, ba, bd, sepL_append.2 ⟨x, y, h1, h2, h3, h4⟩⟩
theorem Pls.mk {bm bl ba bd : Nat} (h : SatL w (own Blk b (.cells #[.int .i64 s.ping, .int .i64 s.grace, .int .i64 s.reg, .map (some bm), .pointer (some ⟨bl, 0, none⟩), .pointer (some ⟨ba, 0, none⟩), .pointer (some ⟨bd, 0, none⟩)] 57 (0, 0)) ::
    own Mp bm s.last :: own Tab bl s.late :: own Tab ba s.ask :: own Tab bd s.dead :: r)) : SatL w (own Pls b s :: r) :=
  SatL.shut (L := [_, _, _, _, _]) h fun x hx => ⟨bm, bl, ba, bd, hx⟩
theorem leave_c (hw : SatL w l) [f : FindO l Pls b s r] (hn : s.small 100000) (hk : ∀ w', SatL w' (own Pls b (s.leave id) :: r) → k (.tuple #[]) w') : CALL Try.prog 14 #[.pointer (some ⟨b, 0, none⟩), .int .i64 id] k w := by
  obtain ⟨h1, h2, h3⟩ := hn
  obtain ⟨bm, bl, ba, bd, h⟩ := Pls.out (hw.find (A := Pls) b)
  apply f14.call
  unfold f14.b
  repeat (first | (refine brF rfl ?_) | (refine brT rfl ?_) | (refine NN_r ?_) | (apply LD_r (by assumption); case hi => rfl) | (refine DR_r (by assumption) ?_; intro w hw) | (refine AL_r (by assumption) ?_; intro q w hw) | (apply ST_r (by assumption); (case hi => simp); (case hv => rfl); intro w hw; (try simp only [List.setIfInBounds_toArray, List.set_cons_zero, List.set_cons_succ, Nat.reduceAdd, Nat.zero_add] at hw)) | (refine MD_i (by assumption) ?_; intro w hw) | (apply MU_i (by assumption) <;> (first | assumption | (intro w hw))) | (apply stop_c (by assumption) <;> (first | omega | assumption | (intro w hw; first | refine ⟨rfl, ?_⟩ | refine ⟨_, rfl, ?_⟩ | refine ⟨_, _, rfl, ?_⟩))))
  refine hk _ (Pls.mk (bm := bm) (bl := bl) (ba := ba) (bd := bd) ?_)
  dsimp only [PS.leave]
  exact SatL.sub (by assumption)
theorem join_c (hw : SatL w l) [f : FindO l Pls b s r] (hn : s.small 100000) (hid : inI id) (hk : ∀ w', SatL w' (own Pls b (s.join id now) :: r) → k (.tuple #[]) w') : CALL Try.prog 8 #[.pointer (some ⟨b, 0, none⟩), .int .i64 id, .int .i64 now] k w := by
  have hn0 := hn
  obtain ⟨h1, h2, h3⟩ := hn
  apply f8.call
  unfold f8.b
  refine brF rfl (leave_c hw hn0 fun w1 hw1 => ⟨rfl, ?_⟩)
  obtain ⟨bm, bl, ba, bd, h⟩ := Pls.out hw1
  have hl := delT_len id s.late
  have h4 : (s.leave id).late.length ≤ 100000 := by unfold PS.leave; simp only; omega
  repeat (first | (refine brF rfl ?_) | (refine brT rfl ?_) | (refine NN_r ?_) | (apply LD_r (by assumption); case hi => rfl) | (refine DR_r (by assumption) ?_; intro w hw) | (refine AL_r (by assumption) ?_; intro q w hw) | (apply ST_r (by assumption); (case hi => simp); (case hv => rfl); intro w hw; (try simp only [List.setIfInBounds_toArray, List.set_cons_zero, List.set_cons_succ, Nat.reduceAdd, Nat.zero_add] at hw)) | (refine MD_i (by assumption) ?_; intro w hw) | (apply MU_i (by assumption) <;> (first | assumption | (intro w hw))) | (apply set_c (by assumption) <;> (first | omega | assumption | (intro w hw; first | refine ⟨rfl, ?_⟩ | refine ⟨_, rfl, ?_⟩ | refine ⟨_, _, rfl, ?_⟩))))
  refine hk _ (Pls.mk (bm := bm) (bl := bl) (ba := ba) (bd := bd) ?_)
  dsimp only [PS.leave, PS.join] at *
  exact SatL.sub (by assumption)
theorem register_c (hw : SatL w l) [f : FindO l Pls b s r] (hn : s.small 100000) (hid : inI id) (hk : ∀ w', SatL w' (own Pls b (s.register id now) :: r) → k (.tuple #[]) w') : CALL Try.prog 9 #[.pointer (some ⟨b, 0, none⟩), .int .i64 id, .int .i64 now] k w := by
  obtain ⟨h1, h2, h3⟩ := hn
  have h0 := hw.find (A := Pls) b
  obtain ⟨bm, bl, ba, bd, h⟩ := Pls.out h0
  apply f9.call
  unfold f9.b
  repeat (first | (refine brF rfl ?_) | (refine brT rfl ?_) | (refine NN_r ?_) | (apply LD_r (by assumption); case hi => rfl) | (refine DR_r (by assumption) ?_; intro w hw) | (refine AL_r (by assumption) ?_; intro q w hw) | (apply ST_r (by assumption); (case hi => simp); (case hv => rfl); intro w hw; (try simp only [List.setIfInBounds_toArray, List.set_cons_zero, List.set_cons_succ, Nat.reduceAdd, Nat.zero_add] at hw)) | (refine MD_i (by assumption) ?_; intro w hw) | (apply MU_i (by assumption) <;> (first | assumption | (intro w hw))))
  refine LK_i h ⟨_, rfl, ?_⟩
  unfold PS.register at hk
  cases hl : s.last id with
  | none =>
    refine brT rfl (hk _ ?_)
    rw [if_neg (by simp [hl])]
    exact h0
  | some t =>
    rw [if_pos (by simp [hl])] at hk
    refine brF rfl ?_
    repeat (first | (refine brF rfl ?_) | (refine brT rfl ?_) | (refine NN_r ?_) | (apply LD_r (by assumption); case hi => rfl) | (refine DR_r (by assumption) ?_; intro w hw) | (refine AL_r (by assumption) ?_; intro q w hw) | (apply ST_r (by assumption); (case hi => simp); (case hv => rfl); intro w hw; (try simp only [List.setIfInBounds_toArray, List.set_cons_zero, List.set_cons_succ, Nat.reduceAdd, Nat.zero_add] at hw)) | (refine MD_i (by assumption) ?_; intro w hw) | (apply MU_i (by assumption) <;> (first | assumption | (intro w hw))) | (apply stop_c (by assumption) <;> (first | omega | assumption | (intro w hw; first | refine ⟨rfl, ?_⟩ | refine ⟨_, rfl, ?_⟩ | refine ⟨_, _, rfl, ?_⟩))) | (apply set_c (by assumption) <;> (first | omega | assumption | (intro w hw; first | refine ⟨rfl, ?_⟩ | refine ⟨_, rfl, ?_⟩ | refine ⟨_, _, rfl, ?_⟩))))
    exact hk _ (Pls.mk (bm := bm) (bl := bl) (ba := ba) (bd := bd) (by exact SatL.sub (by assumption)))
theorem line_c (hw : SatL w l) [f : FindO l Pls b s r] (hn : s.small 100000) (hid : inI id) (hk : ∀ w', SatL w' (own Pls b (s.line id now) :: r) → k (.tuple #[]) w') : CALL Try.prog 10 #[.pointer (some ⟨b, 0, none⟩), .int .i64 id, .int .i64 now] k w := by
  have h0 := hw.find (A := Pls) b
  obtain ⟨bm, bl, ba, bd, h⟩ := Pls.out h0
  apply f10.call
  unfold f10.b
  repeat (first | (refine brF rfl ?_) | (refine brT rfl ?_) | (refine NN_r ?_) | (apply LD_r (by assumption); case hi => rfl) | (refine DR_r (by assumption) ?_; intro w hw) | (refine AL_r (by assumption) ?_; intro q w hw) | (apply ST_r (by assumption); (case hi => simp); (case hv => rfl); intro w hw; (try simp only [List.setIfInBounds_toArray, List.set_cons_zero, List.set_cons_succ, Nat.reduceAdd, Nat.zero_add] at hw)) | (refine MD_i (by assumption) ?_; intro w hw) | (apply MU_i (by assumption) <;> (first | assumption | (intro w hw))))
  refine at_c h ⟨_, _, rfl, ?_⟩
  unfold PS.line at hk
  cases hl : (lk s.dead id).isSome with
  | true =>
    rw [if_pos hl] at hk
    exact brT rfl (register_c h0 hn hid fun w1 hw1 => ⟨rfl, hk _ hw1⟩)
  | false =>
    rw [if_neg (by simp [hl])] at hk
    exact brF rfl (hk _ h0)
theorem idle_c (hw : SatL w l) [f : FindO l Pls b s r] (hk : k (.tuple #[.int .i64 (match s.last id with | some t => IntKind.wrap .i64 (now - t) | none => 0), .bool (s.last id).isSome]) w) : CALL Try.prog 19 #[.pointer (some ⟨b, 0, none⟩), .int .i64 id, .int .i64 now] k w := by
  have h0 := hw.find (A := Pls) b
  obtain ⟨bm, bl, ba, bd, h⟩ := Pls.out h0
  apply f19.call
  unfold f19.b
  repeat (first | (refine brF rfl ?_) | (refine brT rfl ?_) | (refine NN_r ?_) | (apply LD_r (by assumption); case hi => rfl) | (refine DR_r (by assumption) ?_; intro w hw) | (refine AL_r (by assumption) ?_; intro q w hw) | (apply ST_r (by assumption); (case hi => simp); (case hv => rfl); intro w hw; (try simp only [List.setIfInBounds_toArray, List.set_cons_zero, List.set_cons_succ, Nat.reduceAdd, Nat.zero_add] at hw)) | (refine MD_i (by assumption) ?_; intro w hw) | (apply MU_i (by assumption) <;> (first | assumption | (intro w hw))))
  refine LK_i h ⟨_, rfl, ?_⟩
  cases hl : s.last id with
  | none => rw [hl] at hk; exact brT rfl hk
  | some t => rw [hl] at hk; exact brF rfl hk
theorem lk_nil' : lk [] = fun _ => none := rfl
theorem tnew_c (hw : SatL w l) (hk : ∀ b w', SatL w' (own Tab b [] :: l) → k (.pointer (some ⟨b, 0, none⟩)) w') : CALL Try.prog 21 #[] k w := by
  apply f21.call
  unfold f21.b
  refine AL_r hw fun q1 w1 h1 => AL_r h1 fun q2 w2 h2 => hk _ _ ?_
  have h3 := Mp.new (h2.sub (l' := own Blk q1 (.map #[] 0) :: own Blk q2 (.cells #[slv (none, 0, 0), .map (some q1)] 69 (0, 0)) :: l))
  have h4 := Row.nil (sz := 2) (t := 72) h3
  exact Tab.mk (s := (none, 0, 0)) (bm := q1) (xs := []) (show SatL w2 (own Blk q2 (.cells #[slv (none, 0, 0), .map (some q1)] 69 (0, 0)) :: own (Row 2 72) (none, 0, 0) [] :: own Mp q1 (fun _ => none) :: l) from h4.sub) ⟨fun m m' x y _ hx => by simp at hx, by simp⟩
theorem Pls.mk' {bm bl ba bd : Nat} {r1 r2 r3 r4 : List HProp} (h : SatL w (own Blk b (.cells #[.int .i64 s.ping, .int .i64 s.grace, .int .i64 s.reg, .map (some bm), .pointer (some ⟨bl, 0, none⟩), .pointer (some ⟨ba, 0, none⟩), .pointer (some ⟨bd, 0, none⟩)] 57 (0, 0)) :: l))
    [f1 : FindO l Mp bm s.last r1] [f2 : FindO r1 Tab bl s.late r2] [f3 : FindO r2 Tab ba s.ask r3] [f4 : FindO r3 Tab bd s.dead r4] : SatL w (own Pls b s :: r4) :=
  Pls.mk (h.perm (((((f1.perm.trans ((f2.perm.trans ((f3.perm.trans (f4.perm.cons _)).cons _)).cons _)))).cons _)))
def newS (p g q : Int) : PS := ⟨if (1 : Int) > p then 1 else p, if (1 : Int) > g then 1 else g, if (1 : Int) > q then 1 else q, fun _ => none, [], [], []⟩
theorem new_c {s1 s2 s3 s4 : ByteArray} {n5 n6 n7 n8 n9 n10 n11 n12 n13 n14 n15 : Int} (hw : SatL w l) (hk : ∀ b w', SatL w' (own Pls b (newS n13 n14 n15) :: l) → k (.pointer (some ⟨b, 0, none⟩)) w') :
    CALL Try.prog 7 #[.agg #[.string s1, .string s2, .string s3, .string s4, .int .i64 n5, .int .i64 n6, .int .i64 n7, .int .i64 n8, .int .i64 n9, .int .i64 n10, .int .i64 n11, .int .i64 n12, .int .i64 n13, .int .i64 n14, .int .i64 n15]] k w := by
  apply f7.call
  unfold f7.b
  refine AL_r hw fun q w1 h1 => DRC_r h1 fun w2 h2 => STL_r (x := n13) rfl (STL_r (x := n14) rfl (STL_r (x := n15) rfl ?_))
  clear h1 hw
  repeat (any_goals (first
    | (refine tnew_c (by assumption) ?_; intro q w hw; refine ⟨_, rfl, ?_⟩)
    | (refine AL_r (o := .map #[] 0) (by assumption) ?_; intro q w hw; replace hw := Mp.new hw)
    | (refine ⟨SatL.sub (by assumption), ?_⟩)
    | (refine ⟨?_, ?_⟩)
    | (refine AL_r (by assumption) ?_; intro q w hw; refine hk _ _ ?_; exact (Pls.mk' (s := newS n13 n14 n15) hw).sub)))
end
end Go.Proofs.Ytnaeabcaennbjaa
