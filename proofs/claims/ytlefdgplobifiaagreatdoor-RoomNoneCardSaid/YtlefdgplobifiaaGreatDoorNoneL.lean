/- RoomNone: the law's walk. -/
import Derived.Test.YtlefdgplobifiaaGreatDoorChg
import Derived.Test.YtlefdgplobifiaaGreatDoorGF
import Derived.Test.YtlefdgplobifiaaGreatDoorG6
set_option linter.unusedVariables false
set_option linter.unusedSimpArgs false
namespace Go.Proofs.YtlefdgplobifiaaGreatDoor
open Go
section
variable {w : World} {l r r1 : List HProp} {k : Value → World → Prop} {b : Nat} {s : RS} {id : Int} {W : World}
theorem changeK_c {on : Bool} {arg : List UInt8} (hw : SatL w l) [f : FindO l RmC b s r] (hs : arg.length < 70368744177664) (hk : ∀ w', SatL w' (own RmC b (s.locked ⟨on, 107, arg⟩).1 :: r) → k (chV (s.locked ⟨on, 107, arg⟩).2.1 (s.locked ⟨on, 107, arg⟩).2.2) w') :
    CALL Tryz.prog 15 #[.pointer (some ⟨b, 0, none⟩), .agg #[.bool on, .int .u8 107, .string (St arg)], .int .i64 id] k w := by
  have h0 := hw.find (A := RmC) b
  clear hw
  apply f15.call
  unfold f15.b
  repeat (first | (refine brF rfl ?_) | (refine brT rfl ?_) | (refine NN_r ?_) | (apply LD_r (by assumption); case hi => rfl) | (refine DR_r (by assumption) ?_; intro w hw) | (refine AL_r (by assumption) ?_; intro q w hw) | (apply ST_r (by assumption); (case hi => simp); (case hv => rfl); intro w hw; (try simp only [List.setIfInBounds_toArray, List.set_cons_zero, List.set_cons_succ, Nat.reduceAdd, Nat.zero_add] at hw)) | (simp only [Addr.add_mk]))
  refine locked_c (x := ⟨on, 107, arg⟩) (by assumption) hs fun w h => ⟨_, _, _, _, rfl, ?_⟩
  repeat (first | (refine brF rfl ?_) | (refine brT rfl ?_) | (refine NN_r ?_) | (apply LD_r (by assumption); case hi => rfl) | (refine DR_r (by assumption) ?_; intro w hw) | (refine AL_r (by assumption) ?_; intro q w hw) | (apply ST_r (by assumption); (case hi => simp); (case hv => rfl); intro w hw; (try simp only [List.setIfInBounds_toArray, List.set_cons_zero, List.set_cons_succ, Nat.reduceAdd, Nat.zero_add] at hw)) | (simp only [Addr.add_mk]))
  refine hk _ ?_
  exact SatL.sub (by assumption)
theorem box_texts {q : Nat} {x : List UInt8} (h : SatL w (own Blk q (.cells #[.string (St x)] 9 (0, 0)) :: l)) : SatL w (own (Row 1 9) (some ⟨q, 0, none⟩, 1, 1) (encF encS [x]) :: l) := Row.mk (cs := encF encS [x]) (sp := []) h rfl rfl (Nat.le_refl _)
theorem box_texts2 {q : Nat} {x y : List UInt8} (h : SatL w (own Blk q (.cells #[.string (St x), .string (St y)] 9 (0, 0)) :: l)) : SatL w (own (Row 1 9) (some ⟨q, 0, none⟩, 2, 2) (encF encS [x, y]) :: l) := Row.mk (cs := encF encS [x, y]) (sp := []) h rfl rfl (Nat.le_refl _)
theorem awake_c (hT : Pow10 W) (hw : SatL w l) [f : FindO l Old W () r] (hk : ∀ w', SatL w' (own Old W () :: r) → k (.bool true) w') : CALL Tryz.prog 7 #[] k w := by
  have h0 := hw.find (A := Old) W
  clear hw
  apply f7.call
  unfold f7.b
  refine rnew_c (nm := [35, 97]) h0 fun b w h => ⟨_, rfl, ?_⟩
  refine rmodes_c hT h ⟨by simp, by simp, by simp⟩ (by decide) fun sl w h => ⟨_, rfl, AL_r h fun q w h => ?_⟩
  refine texts_c (xs := _) (ys := [[43, 110, 116]]) (box_texts (x := [43, 110, 116]) h) (by decide +kernel) fun w h => ⟨_, rfl, ?_⟩
  rw [decide_eq_true (by decide +kernel : (RS.modes ⟨[35, 97], 5, [], [], 20, [], 0, [], []⟩ true) = [[43, 110, 116]])]
  refine brF rfl (changeK_c (arg := [120]) h (by decide) fun w h => ⟨_, _, _, _, rfl, AL_r h fun q2 w h => ?_⟩)
  simp only [Addr.add_mk]
  refine ST_r (b := q2) h (by simp) rfl fun w h => ST_r (b := q2) h (by simp) rfl fun w h => ST_r (b := q2) h (by simp) rfl fun w h => ?_
  have e : RS.locked ⟨[35, 97], 5, [], [], 20, [], 0, [], []⟩ ⟨true, 107, [120]⟩ = (⟨[35, 97], 5, [], [], 20, [120], 0, [], []⟩, ⟨true, 107, [120]⟩, 0) := by
    unfold RS.locked
    rw [if_pos rfl, if_pos (by decide +kernel)]
  rw [e] at h ⊢
  simp only at h ⊢
  unfold f7.O1
  refine brT rfl ?_
  simp only [Addr.add_mk]
  refine LD_r (b := q2) h (x := St [120]) rfl ?_
  rw [show (⟨#[120]⟩ : ByteArray) = St [120] from rfl, decide_eq_true (rfl : St [120] = St [120])]
  unfold f7.O2
  refine brT rfl (rmodes_c hT h ⟨by simp, by simp, by simp⟩ (by decide) fun sl w h => ⟨_, rfl, AL_r h fun q w h => ?_⟩)
  refine texts_c (xs := _) (ys := [[43, 107, 110, 116], [120]]) (box_texts2 (x := [43, 107, 110, 116]) (y := [120]) h) (by decide +kernel) fun w h => ⟨_, rfl, ?_⟩
  rw [decide_eq_true (by decide +kernel : (RS.modes ⟨[35, 97], 5, [], [], 20, [120], 0, [], []⟩ true) = [[43, 107, 110, 116], [120]])]
  unfold f7.O3
  refine brT rfl (rmodes_c hT h ⟨by simp, by simp, by simp⟩ (by decide) fun sl w h => ⟨_, rfl, AL_r h fun q w h => ?_⟩)
  refine texts_c (xs := _) (ys := [[43, 107, 110, 116], [42]]) (box_texts2 (x := [43, 107, 110, 116]) (y := [42]) h) (by decide +kernel) fun w h => ⟨_, rfl, ?_⟩
  rw [decide_eq_true (by decide +kernel : (RS.modes ⟨[35, 97], 5, [], [], 20, [120], 0, [], []⟩ false) = [[43, 107, 110, 116], [42]])]
  exact hk _ h.sub
/-! ### A nil room -/
theorem radd_nil {op : Bool} (hk : k (.tuple #[]) w) : CALL Tryz.prog 27 #[.pointer none, .int .i64 id, .bool op] k w := by
  apply f27.call
  unfold f27.b
  exact rat_nil ⟨_, _, rfl, brT rfl hk⟩
theorem rsettopic_nil {t : ByteArray} (hk : k (.tuple #[]) w) : CALL Tryz.prog 28 #[.pointer none, .string t] k w := by
  apply f28.call
  unfold f28.b
  exact brF rfl hk
theorem rinvite_nil (hk : k (.tuple #[]) w) : CALL Tryz.prog 29 #[.pointer none, .int .i64 id] k w := by
  apply f29.call
  unfold f29.b
  exact brF rfl hk
theorem rmember_nil (hw : SatL w l) (hk : ∀ w', SatL w' l → k (.tuple #[.agg #[.int .i64 0, .bool false, .bool false], .bool false]) w') : CALL Tryz.prog 14 #[.pointer none, .int .i64 id] k w := by
  apply f14.call
  unfold f14.b
  refine AL_r hw fun q w h => rat_nil ⟨_, _, rfl, brT rfl ?_⟩
  simp only [Addr.add_mk]
  refine ST_r (b := q) h (by simp) rfl fun w h => ST_r (b := q) h (by simp) rfl fun w h => ST_r (b := q) h (by simp) rfl fun w h => ?_
  exact LD_r (b := q) h (x := 0) (by simp) (LD_r (b := q) h (x := false) (by simp) (LD_r (b := q) h (x := false) (by simp) (hk _ h.drop)))
theorem rdrop_nil (hk : k (.bool false) w) : CALL Tryz.prog 30 #[.pointer none, .int .i64 id] k w := by
  apply f30.call
  unfold f30.b
  refine rat_nil ⟨_, _, rfl, brF rfl ?_⟩
  unfold f30.J1
  exact hk
theorem rname_nil (hk : k (.string (St [])) w) : CALL Tryz.prog 20 #[.pointer none] k w := by
  apply f20.call
  unfold f20.b
  exact brT rfl hk
theorem rtopic_nil (hk : k (.string (St [])) w) : CALL Tryz.prog 21 #[.pointer none] k w := by
  apply f21.call
  unfold f21.b
  exact brT rfl hk
theorem rflag_nil {n : Int} (hw : SatL w l) (hk : ∀ w', SatL w' l → k (.bool false) w') : CALL Tryz.prog 23 #[.pointer none, .int .u8 n] k w := by
  apply f23.call
  unfold f23.b
  exact DRC_r hw fun w h => brF rfl (hk _ h)
theorem rmodes_nil {all : Bool} (hk : k (slv (none, 0, 0)) w) : CALL Tryz.prog 12 #[.pointer none, .bool all] k w := by
  apply f12.call
  unfold f12.b
  exact brT rfl hk
theorem rlen_nil (hk : k (.int .i64 0) w) : CALL Tryz.prog 46 #[.pointer none] k w := by
  apply f46.call
  unfold f46.b
  exact brT rfl hk
theorem rmayjoin_nil {x y : ByteArray} (hk : k (.int .i64 403) w) : CALL Tryz.prog 31 #[.pointer none, .int .i64 id, .string x, .string y] k w := by
  apply f31.call
  unfold f31.b
  exact brT rfl hk
theorem rmayspeak_nil {x : ByteArray} (hk : k (.bool false) w) : CALL Tryz.prog 25 #[.pointer none, .int .i64 id, .string x] k w := by
  apply f25.call
  unfold f25.b
  exact brT rfl hk
theorem rchange_nil {on : Bool} {n : Int} {x : ByteArray} (hw : SatL w l) (hk : ∀ w', SatL w' l → k (.tuple #[.agg #[.bool false, .int .u8 0, .string (St [])], .int .i64 403]) w') : CALL Tryz.prog 15 #[.pointer none, .agg #[.bool on, .int .u8 n, .string x], .int .i64 id] k w := by
  apply f15.call
  unfold f15.b
  repeat (first | (refine brF rfl ?_) | (refine brT rfl ?_) | (refine NN_r ?_) | (apply LD_r (by assumption); case hi => rfl) | (refine DR_r (by assumption) ?_; intro w hw) | (refine AL_r (by assumption) ?_; intro q w hw) | (apply ST_r (by assumption); (case hi => simp); (case hv => rfl); intro w hw; (try simp only [List.setIfInBounds_toArray, List.set_cons_zero, List.set_cons_succ, Nat.reduceAdd, Nat.zero_add] at hw)) | (simp only [Addr.add_mk]))
  exact hk _ (SatL.sub (by assumption))
theorem lbans_nil (hw : SatL w l) (hk : ∀ w', SatL w' l → k (.tuple #[slv (none, 0, 0), .bool true]) w') : CALL Tryz.prog 13 #[.pointer none] k w := by
  apply f13.call
  unfold f13.b
  refine AL_r hw fun q2 w h => AL_r h fun q3 w h => AL_r h fun q4 w h => ?_
  apply f38.call
  unfold f38.b
  refine brT rfl ⟨_, rfl, FNIL_f (brF rfl ?_)⟩
  refine f13.R2_rule rfl Tryz.call63 h fun rec L D w yl h => ?_
  show CALL Tryz.prog 63 #[.func (.yield L) #[] #[]] _ w
  apply f63.call
  unfold f63.b
  refine .inl ⟨_, h, fun w h => ?_⟩
  unfold f13.R2A f13.J1
  repeat (first | (refine brF rfl ?_) | (refine brT rfl ?_) | (refine NN_r ?_) | (apply LD_r (by assumption); case hi => rfl) | (refine DR_r (by assumption) ?_; intro w hw) | (refine AL_r (by assumption) ?_; intro q w hw) | (apply ST_r (by assumption); (case hi => simp); (case hv => rfl); intro w hw; (try simp only [List.setIfInBounds_toArray, List.set_cons_zero, List.set_cons_succ, Nat.reduceAdd, Nat.zero_add] at hw)) | (simp only [Addr.add_mk]))
  refine closeD_r (by assumption) fun w h => ?_
  exact LD_r (b := q2) h (x := (none, 0, 0)) (by simp) (LD_r (b := q3) h (x := true) (by simp) (hk _ h.sub))
theorem lmembers_nil (hw : SatL w l) (hk : ∀ w', SatL w' l → k (.bool true) w') : CALL Tryz.prog 18 #[.pointer none, slv (none, 0, 0)] k w := by
  apply f18.call
  unfold f18.b
  refine AL_r hw fun q3 w h => AL_r h fun q4 w h => AL_r h fun q5 w h => ?_
  simp only [Addr.add_mk]
  refine ST_r (b := q5) h (by simp) rfl fun w h => AL_r h fun q6 w h => ST_r (b := q6) h (by simp) rfl fun w h => ?_
  apply f45.call
  unfold f45.b
  refine brT rfl ⟨_, rfl, FNIL_f (brF rfl ?_)⟩
  refine f18.R2_rule rfl Tryz.call77 h fun rec L D w yl h => ?_
  show CALL Tryz.prog 77 #[.func (.yield L) #[] #[]] _ w
  apply f77.call
  unfold f77.b
  refine .inl ⟨_, h, fun w h => ?_⟩
  unfold f18.R2A f18.J1
  refine DRC_r h fun w h => STL_r (b := q6) (x := true) (by simp) (brT rfl (STL_r (b := q5) (x := 0) (by simp) (STL_r (b := q3) (x := (none, 0, 0)) (by simp) ⟨_, fun _ _ => ⟨rfl, rfl⟩, brT rfl (STL_r (b := q5) (x := 0) (by simp) (rlen_nil ⟨_, rfl, h, ?_⟩))⟩)))
  simp only [Addr.add_mk]
  refine ST_r (b := q4) h (by simp) rfl fun w h => closeD_r h fun w h => ?_
  exact LD_r (b := q4) h (x := true) (by simp) (hk _ h.sub)
theorem great1_c {q : Nat} {n id : Int} {op on : Bool} {c : Int} {x a : List UInt8} (hw : SatL w l) [f : FindO l Blk q (.cells #[.int .i64 n, .int .i64 id, .bool op, .string (St x), .bool on, .int .u8 c, .string (St a)] 33 (0, 0)) r]
    (hk : k (.bool (decide (250 < x.length) || decide (250 < a.length))) w) : CALL Tryz.prog 8 #[slv (some ⟨q, 0, none⟩, 1, 1)] k w := by
  apply f8.call
  unfold f8.b
  refine brF (by simp) ?_
  refine f8.L2_rule (fun i w' => w' = w ∧ (i = 0 ∨ (i = 1 ∧ (decide (250 < x.length) || decide (250 < a.length)) = false))) (fun i _ => (1 - i).toNat) ⟨rfl, .inl rfl⟩ ?_
  rintro i w' ⟨rfl, hi⟩
  unfold f8.L2
  rcases hi with rfl | ⟨rfl, hg⟩
  · refine brT (by simp) ⟨_, rfl, by omega, by simp, ?_⟩
    simp only [Addr.add_mk]
    refine LD_r (b := q) hw (x := St x) rfl ?_
    rw [St_size]
    refine brD (fun h1 => ?_) fun h1 => ⟨_, rfl, by omega, by simp, ?_⟩
    · rwa [decide_eq_true (by omega : 250 < x.length), Bool.true_or] at hk
    simp only [Addr.add_mk]
    refine LD_r (b := q) hw (x := St a) rfl ?_
    rw [St_size]
    refine brD (fun h2 => ?_) fun h2 => ?_
    · rwa [decide_eq_true (by omega : 250 < a.length), Bool.or_true] at hk
    · refine f8.L2_next ⟨rfl, .inr ⟨by rw [w64'] <;> omega, ?_⟩⟩ (by rw [w64'] <;> omega)
      rw [decide_eq_false (by omega : ¬ 250 < x.length), decide_eq_false (by omega : ¬ 250 < a.length)]; rfl
  · refine brF (by simp) ?_
    unfold f8.J1
    rwa [hg] at hk
theorem roomNone_c {n id : Int} {op on : Bool} {c : Int} {x a : List UInt8} (hT : Pow10 W) (hw : SatL w l) [f : FindO l Old W () r] (hk : ∀ w', SatL w' (own Old W () :: r) → k (.bool true) w') :
    CALL Tryz.prog 6 #[.agg #[.int .i64 n, .int .i64 id, .bool op, .string (St x), .bool on, .int .u8 c, .string (St a)]] k w := by
  have h0 := hw.find (A := Old) W
  clear hw
  apply f6.call
  unfold f6.b
  refine AL_r h0 fun q w h => awake_c hT h fun w h => ⟨_, rfl, brF rfl ?_⟩
  clear h0
  repeat (first | (refine brF rfl ?_) | (refine brT rfl ?_) | (refine NN_r ?_) | (apply LD_r (by assumption); case hi => rfl) | (refine DR_r (by assumption) ?_; intro w hw) | (refine AL_r (by assumption) ?_; intro q w hw) | (apply ST_r (by assumption); (case hi => simp); (case hv => rfl); intro w hw; (try simp only [List.setIfInBounds_toArray, List.set_cons_zero, List.set_cons_succ, Nat.reduceAdd, Nat.zero_add] at hw)) | (simp only [Addr.add_mk]))
  refine great1_c (x := x) (a := a) (by assumption) ⟨_, rfl, ?_⟩
  refine br (fun hg => ?_) fun hg => ?_
  · exact hk _ (SatL.sub (by assumption))
  repeat (first | (refine brF rfl ?_) | (refine brT rfl ?_) | (refine NN_r ?_) | (apply LD_r (by assumption); case hi => rfl) | (refine DR_r (by assumption) ?_; intro w hw) | (refine AL_r (by assumption) ?_; intro q w hw) | (apply ST_r (by assumption); (case hi => simp); (case hv => rfl); intro w hw; (try simp only [List.setIfInBounds_toArray, List.set_cons_zero, List.set_cons_succ, Nat.reduceAdd, Nat.zero_add] at hw)) | (simp only [Addr.add_mk]))
  refine radd_nil ⟨rfl, ?_⟩
  repeat (first | (refine brF rfl ?_) | (refine brT rfl ?_) | (refine NN_r ?_) | (apply LD_r (by assumption); case hi => rfl) | (refine DR_r (by assumption) ?_; intro w hw) | (refine AL_r (by assumption) ?_; intro q w hw) | (apply ST_r (by assumption); (case hi => simp); (case hv => rfl); intro w hw; (try simp only [List.setIfInBounds_toArray, List.set_cons_zero, List.set_cons_succ, Nat.reduceAdd, Nat.zero_add] at hw)) | (simp only [Addr.add_mk]))
  refine rsettopic_nil ⟨rfl, ?_⟩
  repeat (first | (refine brF rfl ?_) | (refine brT rfl ?_) | (refine NN_r ?_) | (apply LD_r (by assumption); case hi => rfl) | (refine DR_r (by assumption) ?_; intro w hw) | (refine AL_r (by assumption) ?_; intro q w hw) | (apply ST_r (by assumption); (case hi => simp); (case hv => rfl); intro w hw; (try simp only [List.setIfInBounds_toArray, List.set_cons_zero, List.set_cons_succ, Nat.reduceAdd, Nat.zero_add] at hw)) | (simp only [Addr.add_mk]))
  refine rinvite_nil ⟨rfl, ?_⟩
  repeat (first | (refine brF rfl ?_) | (refine brT rfl ?_) | (refine NN_r ?_) | (apply LD_r (by assumption); case hi => rfl) | (refine DR_r (by assumption) ?_; intro w hw) | (refine AL_r (by assumption) ?_; intro q w hw) | (apply ST_r (by assumption); (case hi => simp); (case hv => rfl); intro w hw; (try simp only [List.setIfInBounds_toArray, List.set_cons_zero, List.set_cons_succ, Nat.reduceAdd, Nat.zero_add] at hw)) | (simp only [Addr.add_mk]))
  refine rmember_nil (by assumption) fun w h => ⟨_, _, _, _, rfl, ?_⟩
  repeat (first | (refine brF rfl ?_) | (refine brT rfl ?_) | (refine NN_r ?_) | (apply LD_r (by assumption); case hi => rfl) | (refine DR_r (by assumption) ?_; intro w hw) | (refine AL_r (by assumption) ?_; intro q w hw) | (apply ST_r (by assumption); (case hi => simp); (case hv => rfl); intro w hw; (try simp only [List.setIfInBounds_toArray, List.set_cons_zero, List.set_cons_succ, Nat.reduceAdd, Nat.zero_add] at hw)) | (simp only [Addr.add_mk]))
  refine rchange_nil (by assumption) fun w h => ⟨_, _, _, _, rfl, ?_⟩
  repeat (first | (refine brF rfl ?_) | (refine brT rfl ?_) | (refine NN_r ?_) | (apply LD_r (by assumption); case hi => rfl) | (refine DR_r (by assumption) ?_; intro w hw) | (refine AL_r (by assumption) ?_; intro q w hw) | (apply ST_r (by assumption); (case hi => simp); (case hv => rfl); intro w hw; (try simp only [List.setIfInBounds_toArray, List.set_cons_zero, List.set_cons_succ, Nat.reduceAdd, Nat.zero_add] at hw)) | (simp only [Addr.add_mk]))
  refine lbans_nil (by assumption) fun w h => ⟨_, _, rfl, ?_⟩
  unfold f6.O1
  repeat (first | (refine brF rfl ?_) | (refine brT rfl ?_) | (refine NN_r ?_) | (apply LD_r (by assumption); case hi => rfl) | (refine DR_r (by assumption) ?_; intro w hw) | (refine AL_r (by assumption) ?_; intro q w hw) | (apply ST_r (by assumption); (case hi => simp); (case hv => rfl); intro w hw; (try simp only [List.setIfInBounds_toArray, List.set_cons_zero, List.set_cons_succ, Nat.reduceAdd, Nat.zero_add] at hw)) | (simp only [Addr.add_mk]))
  refine rdrop_nil ⟨_, rfl, ?_⟩
  unfold f6.O2
  repeat (first | (refine brF rfl ?_) | (refine brT rfl ?_) | (refine NN_r ?_) | (apply LD_r (by assumption); case hi => rfl) | (refine DR_r (by assumption) ?_; intro w hw) | (refine AL_r (by assumption) ?_; intro q w hw) | (apply ST_r (by assumption); (case hi => simp); (case hv => rfl); intro w hw; (try simp only [List.setIfInBounds_toArray, List.set_cons_zero, List.set_cons_succ, Nat.reduceAdd, Nat.zero_add] at hw)) | (simp only [Addr.add_mk]))
  refine lmembers_nil (by assumption) fun w h => ⟨_, rfl, ?_⟩
  unfold f6.O7
  refine brT rfl (rname_nil ⟨_, rfl, ?_⟩)
  unfold f6.O8
  refine brT rfl (rtopic_nil ⟨_, rfl, ?_⟩)
  unfold f6.O9
  refine brT rfl (rflag_nil h fun w h => ⟨_, rfl, ?_⟩)
  unfold f6.O10
  refine brT rfl (rmodes_nil ⟨_, rfl, ?_⟩)
  unfold f6.O11
  repeat (first | (refine brF rfl ?_) | (refine brT rfl ?_) | (refine NN_r ?_) | (apply LD_r (by assumption); case hi => rfl) | (refine DR_r (by assumption) ?_; intro w hw) | (refine AL_r (by assumption) ?_; intro q w hw) | (apply ST_r (by assumption); (case hi => simp); (case hv => rfl); intro w hw; (try simp only [List.setIfInBounds_toArray, List.set_cons_zero, List.set_cons_succ, Nat.reduceAdd, Nat.zero_add] at hw)) | (simp only [Addr.add_mk]))
  refine rmayjoin_nil ⟨_, rfl, ?_⟩
  unfold f6.O12
  repeat (first | (refine brF rfl ?_) | (refine brT rfl ?_) | (refine NN_r ?_) | (apply LD_r (by assumption); case hi => rfl) | (refine DR_r (by assumption) ?_; intro w hw) | (refine AL_r (by assumption) ?_; intro q w hw) | (apply ST_r (by assumption); (case hi => simp); (case hv => rfl); intro w hw; (try simp only [List.setIfInBounds_toArray, List.set_cons_zero, List.set_cons_succ, Nat.reduceAdd, Nat.zero_add] at hw)) | (simp only [Addr.add_mk]))
  refine rmayspeak_nil ⟨_, rfl, hk _ ?_⟩
  exact SatL.sub (by assumption)
end
end Go.Proofs.YtlefdgplobifiaaGreatDoor
