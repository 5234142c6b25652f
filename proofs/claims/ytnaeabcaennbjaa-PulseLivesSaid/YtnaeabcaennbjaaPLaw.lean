/- The laws PulseNone, PulsePlays, PulseLives: what their Go functions answer. -/
import Derived.Test.YtnaeabcaennbjaaPlsM
import Derived.Test.YtnaeabcaennbjaaGB
import Derived.Test.YtnaeabcaennbjaaGC
import Derived.Test.YtnaeabcaennbjaaGD
set_option linter.unusedVariables false
set_option linter.unusedSimpArgs false
namespace Go.Proofs.Ytnaeabcaennbjaa
open Go
section
variable {w : World} {l r r' : List HProp} {k : Value → World → Prop} {b : Nat} {s : PS} {now now' : Int} {c : Int × Int × Int} {cs : List Cn} {y : Cn}
theorem Pls.ok (h : SatL w (own Pls b s :: r)) : s.ok := by
  obtain ⟨bm, bl, ba, bd, h⟩ := Pls.out h
  exact ⟨(Tab.ok (h.sub (l' := own Tab bl s.late :: r))).nodup, (Tab.ok (h.sub (l' := own Tab ba s.ask :: r))).nodup, (Tab.ok (h.sub (l' := own Tab bd s.dead :: r))).nodup⟩
theorem new_rel (hc : Cf c 0) : Rel c (newS c.1 c.2.1 c.2.2) [] 0 := by
  have h1 := hc.c1; have h2 := hc.c2; have h3 := hc.c3
  refine ⟨⟨?_, ?_, ?_⟩, by simp, by simp, fun _ => rfl, fun _ => rfl, fun _ => rfl, fun _ => rfl⟩
  · show (if (1 : Int) > c.1 then 1 else c.1) = c.1; rw [if_neg (by omega)]
  · show (if (1 : Int) > c.2.1 then 1 else c.2.1) = c.2.1; rw [if_neg (by omega)]
  · show (if (1 : Int) > c.2.2 then 1 else c.2.2) = c.2.2; rw [if_neg (by omega)]
theorem Cf.at (h : Cf c now) {n : Int} (h0 : 0 ≤ n) (h1 : n ≤ 1000000000) : Cf c n := ⟨h.c1, h.c2, h.c3, h0, h1⟩
def dueOne (c : Int × Int × Int) (now : Int) (y : Cn) : List (Int × Int) := if whatC c now y = 0 then [] else [(y.id, whatC c now y)]
theorem okO_one : OkO c now [y] (dueOne c now y) := by
  unfold dueOne
  by_cases h : whatC c now y = 0
  · rw [if_pos h]
    refine ⟨by simp, fun x v => ⟨fun h => by simp at h, ?_⟩⟩
    rintro ⟨z, hz, h1, h2, h3⟩
    simp at hz; subst hz; omega
  · rw [if_neg h]
    refine ⟨by simp, fun x v => ?_⟩
    rw [List.mem_singleton]
    constructor
    · intro e; cases e; exact ⟨y, by simp, rfl, rfl, h⟩
    · rintro ⟨z, hz, h1, h2, h3⟩
      simp at hz; subst hz; rw [← h1, ← h2]
theorem same_rel {sl : Sl} {ws : List (Int × Int)} (hw : SatL w l) [f : FindO l Pls b s r] [f2 : FindO r (Row 2 51) sl (encs ws) r'] (hrel : Rel c s cs now') (hle : now' ≤ now) (hc : Cf c now) (hn : cs.length ≤ 100000) (hwl : ws.length ≤ 100000) (ho : OkO c now cs ws)
    (hk : ∀ w', Rel c (s.due now) (cs.map (askC c now)) now → SatL w' (own Pls b (s.due now) :: own (Row 2 51) sl (encs ws) :: r') → k (.bool true) w') : CALL Try.prog 16 #[.pointer (some ⟨b, 0, none⟩), slv sl, .int .i64 now] k w := by
  have hok := Pls.ok (hw.find (A := Pls) b)
  have hrel := hrel.later hle
  refine same_c hw (small_of hrel hok hn) hwl fun ids w' hp hm h => ?_
  rw [decide_eq_true (due_eq hrel hok hc hp hm ho)]
  exact hk w' (due_rel hrel hok hc) h
theorem one_row {q : Nat} {x v : Int} (h : SatL w (own Blk q (.cells #[.int .i64 x, .int .i64 v] 51 (0, 0)) :: l)) : SatL w (own (Row 2 51) (some ⟨q, 0, none⟩, 1, 1) (encs [(x, v)]) :: l) :=
  Row.mk (cs := encs [(x, v)]) (sp := []) (by simpa [encs, encI] using h) rfl rfl (Nat.le_refl _)
theorem awake_c (hw : SatL w l) (hk : ∀ w', SatL w' l → k (.bool true) w') : CALL Try.prog 6 #[] k w := by
  have hc : Cf (2, 1, 9) 0 := ⟨by decide, by decide, by decide, by decide⟩
  apply f6.call
  unfold f6.b
  refine new_c hw fun b w1 h1 => ⟨_, rfl, ?_⟩
  have r1 : Rel (2, 1, 9) (newS 2 1 9) [] 0 := new_rel hc
  have o1 := Pls.ok h1
  refine join_c h1 (small_of r1 o1 (by simp)) (by unfold inI; decide) fun w2 h2 => ⟨rfl, ?_⟩
  have r2 := join_rel (id := 7) r1 o1 hc
  have o2 := Pls.ok h2
  refine register_c h2 (small_of r2 o2 (by decide)) (by unfold inI; decide) fun w3 h3 => ⟨rfl, ?_⟩
  have r3 : Rel (2, 1, 9) _ [⟨7, 0, true, false⟩] 0 := reg_rel (id := 7) r2 o2 hc
  have h3' : SatL w3 (own Pls b (((newS 2 1 9).join 7 0).register 7 0) :: own (Row 2 51) (none, 0, 0) (encs []) :: l) := (Row.nil (sz := 2) (t := 51) h3).swap
  refine same_rel h3' r3 (by decide) (hc.at (by decide) (by decide)) (by decide) (by decide) (okO_one (y := ⟨7, 0, true, false⟩)) fun w4 r4 h4 => ⟨_, rfl, brT rfl ?_⟩
  refine AL_r h4 fun q w5 h5 => ?_
  have h5 : SatL w5 (own (Row 2 51) (some ⟨q, 0, none⟩, 1, 1) (encs [(7, 2)]) :: _) := one_row h5
  refine same_rel h5 r4 (by decide) (hc.at (by decide) (by decide)) (by decide) (by decide) (okO_one (c := (2, 1, 9)) (now := 2) (y := ⟨7, 0, true, false⟩)) fun w6 r6 h6 => ⟨_, rfl, brT rfl ?_⟩
  refine AL_r h6 fun q2 w7 h7 => ?_
  have h7 : SatL w7 (own (Row 2 51) (some ⟨q2, 0, none⟩, 1, 1) (encs [(7, 3)]) :: _) := one_row h7
  refine same_rel h7 r6 (by decide) (hc.at (by decide) (by decide)) (by decide) (by decide) (okO_one (c := (2, 1, 9)) (now := 3) (y := ⟨7, 0, true, true⟩)) fun w8 r8 h8 => ⟨_, rfl, hk _ h8.sub⟩
/-! A nil pulse -/
theorem join_nil {id : Int} (hk : k (.tuple #[]) w) : CALL Try.prog 8 #[.pointer none, .int .i64 id, .int .i64 now] k w := by
  apply f8.call; unfold f8.b; exact brT rfl hk
theorem register_nil {id : Int} (hk : k (.tuple #[]) w) : CALL Try.prog 9 #[.pointer none, .int .i64 id, .int .i64 now] k w := by
  apply f9.call; unfold f9.b; exact brT rfl hk
theorem line_nil {id : Int} (hk : k (.tuple #[]) w) : CALL Try.prog 10 #[.pointer none, .int .i64 id, .int .i64 now] k w := by
  apply f10.call; unfold f10.b; exact brT rfl hk
theorem leave_nil {id : Int} (hk : k (.tuple #[]) w) : CALL Try.prog 14 #[.pointer none, .int .i64 id] k w := by
  apply f14.call; unfold f14.b; exact brT rfl hk
theorem idle_nil {id : Int} (hk : k (.tuple #[.int .i64 0, .bool false]) w) : CALL Try.prog 19 #[.pointer none, .int .i64 id, .int .i64 now] k w := by
  apply f19.call; unfold f19.b; exact brT rfl hk
theorem due_nil (hw : SatL w l) (hk : ∀ w', SatL w' l → k (.func (.func 25) #[] #[]) w') : CALL Try.prog 11 #[.pointer none, .int .i64 now] k w := by
  apply f11.call; unfold f11.b
  exact AL_r hw fun q1 w1 h1 => AL_r h1 fun q2 w2 h2 => LD_r h2 (x := none) rfl (brT rfl (hk _ h2.sub))
theorem same_nil (hw : SatL w l) (hk : ∀ w', SatL w' l → k (.bool true) w') : CALL Try.prog 16 #[.pointer none, slv (none, 0, 0), .int .i64 now] k w := by
  apply f16.call
  unfold f16.b
  repeat (first | (refine brF rfl ?_) | (refine brT rfl ?_) | (refine NN_r ?_) | (apply LD_r (by assumption); case hi => rfl) | (refine DR_r (by assumption) ?_; intro w hw) | (refine AL_r (by assumption) ?_; intro q w hw) | (apply ST_r (by assumption); (case hi => simp); (case hv => rfl); intro w hw; (try simp only [List.setIfInBounds_toArray, List.set_cons_zero, List.set_cons_succ, Nat.reduceAdd, Nat.zero_add] at hw)) | (refine MD_i (by assumption) ?_; intro w hw) | (apply MU_i (by assumption) <;> (first | assumption | (intro w hw))))
  refine due_nil (by assumption) fun w h => ⟨_, rfl, FNIL_f (brF rfl ?_)⟩
  refine f16.R2_rule rfl Try.call25 h fun rec L D w yl h => ?_
  show CALL Try.prog 25 #[.func (.yield L) #[] #[]] _ w
  apply f25.call
  unfold f25.b
  refine .inl ⟨_, h, fun w h => ?_⟩
  unfold f16.R2A f16.J1
  repeat (first | (refine brF rfl ?_) | (refine brT rfl ?_) | (refine NN_r ?_) | (apply LD_r (by assumption); case hi => rfl) | (refine DR_r (by assumption) ?_; intro w hw) | (refine AL_r (by assumption) ?_; intro q w hw) | (apply ST_r (by assumption); (case hi => simp); (case hv => rfl); intro w hw; (try simp only [List.setIfInBounds_toArray, List.set_cons_zero, List.set_cons_succ, Nat.reduceAdd, Nat.zero_add] at hw)) | (refine MD_i (by assumption) ?_; intro w hw) | (apply MU_i (by assumption) <;> (first | assumption | (intro w hw))))
  refine closeD_r (by assumption) fun w h => ?_
  exact LD_r h (x := true) rfl (hk _ h.sub)
theorem none_c {g id : Int} (hw : SatL w l) (hg : 0 ≤ g ∧ g ≤ 255) (hid : inI id) (hk : ∀ w', SatL w' l → k (.bool true) w') : CALL Try.prog 5 #[.int .u8 g, .int .i64 id] k w := by
  apply f5.call
  unfold f5.b
  refine awake_c hw fun w1 h1 => ⟨_, rfl, brF rfl (join_nil ⟨rfl, register_nil ⟨rfl, line_nil ⟨rfl, leave_nil ⟨rfl, idle_nil ⟨_, _, rfl, RQ_r (by decide) ?_⟩⟩⟩⟩⟩)⟩
  obtain ⟨K, hK⟩ : ∃ K, K = IntKind.wrap .i64 (1 + Int.tmod (IntKind.wrap .i64 g) 20) := ⟨_, rfl⟩
  have hK2 : 1 ≤ K ∧ K ≤ 20 := by
    rw [hK, w64' (n := g) (by omega), Int.tmod_eq_emod_of_nonneg (by omega), w64' (by omega)]
    omega
  rw [← hK]
  have hc : Cf (1, 1, K) 0 := ⟨by simp, by simp, by simp only; omega, by decide⟩
  have e1 : IntKind.wrap .i64 (K - 1) = K - 1 := w64' (by omega)
  have e2 : IntKind.wrap .i64 (K + 1) = K + 1 := w64' (by omega)
  rw [e1, e2]
  refine new_c h1 fun b w2 h2 => ⟨_, rfl, ?_⟩
  have r2 : Rel (1, 1, K) (newS 1 1 K) [] 0 := new_rel hc
  have o2 := Pls.ok h2
  refine join_c h2 (small_of r2 o2 (by simp)) hid fun w3 h3 => ⟨rfl, ?_⟩
  have r3 : Rel (1, 1, K) _ [⟨id, 0, false, false⟩] 0 := join_rel (id := id) r2 o2 hc
  have o3 := Pls.ok h3
  refine line_c h3 (small_of r3 o3 (by simp)) hid fun w4 h4 => ⟨rfl, ?_⟩
  have r4 : Rel (1, 1, K) (((newS 1 1 K).join id 0).line id K) [⟨id, 0, false, false⟩] K := by
    have h5 := line_rel (id := id) (r3.later (now' := K) (by omega)) o3 (hc.at (by omega) (by omega))
    have e : lineC id K [⟨id, 0, false, false⟩] = [⟨id, 0, false, false⟩] := by simp [lineC, atC]
    rw [e] at h5; exact h5
  have r4' : Rel (1, 1, K) (((newS 1 1 K).join id 0).line id K) [⟨id, 0, false, false⟩] (K - 1) := by
    have hd := r3.dead id
    have e : ((newS 1 1 K).join id 0).line id K = (newS 1 1 K).join id 0 := by
      unfold PS.line
      simp only [fd, List.find?_cons, beq_self_eq_true] at hd
      rw [if_neg (by simp [hd])]
    rw [e]; exact r3.later (by omega)
  refine brT rfl (same_nil h4 fun w5 h5 => ⟨_, rfl, brT rfl ?_⟩)
  have h5 : SatL w5 (own Pls b (((newS 1 1 K).join id 0).line id K) :: own (Row 2 51) (none, 0, 0) (encs []) :: l) := (Row.nil (sz := 2) (t := 51) h5).swap
  have d0 : dueOne (1, 1, K) (K - 1) ⟨id, 0, false, false⟩ = [] := by
    unfold dueOne whatC; simp only [Bool.false_eq_true, if_false]; rw [if_neg (c := K ≤ K - 1 - 0) (by omega)]; rfl
  have d1 : ∀ n, K ≤ n → dueOne (1, 1, K) n ⟨id, 0, false, false⟩ = [(id, 1)] := fun n hn => by
    unfold dueOne whatC; simp only [Bool.false_eq_true, if_false]; rw [if_pos (c := K ≤ n - 0) (by omega)]; rfl
  have a0 : ∀ n, askC (1, 1, K) n ⟨id, 0, false, false⟩ = ⟨id, 0, false, false⟩ := fun n => by
    unfold askC; rw [if_neg]; unfold whatC; simp only [Bool.false_eq_true, if_false]; split <;> decide
  refine same_rel h5 r4' (Int.le_refl _) (hc.at (by omega) (by omega)) (by simp) (by simp) (d0 ▸ okO_one) fun w6 r6 h6 => ⟨_, rfl, brT rfl ?_⟩
  simp only [List.map_cons, List.map_nil, a0] at r6
  refine AL_r h6 fun q w7 h7 => ?_
  have h7 : SatL w7 (own (Row 2 51) (some ⟨q, 0, none⟩, 1, 1) (encs [(id, 1)]) :: _) := one_row h7
  refine same_rel h7 r6 (by omega) (hc.at (by omega) (by omega)) (by simp) (by simp) (d1 K (Int.le_refl _) ▸ okO_one) fun w8 r8 h8 => ⟨_, rfl, brT rfl ?_⟩
  simp only [List.map_cons, List.map_nil, a0] at r8
  refine AL_r h8 fun q w9 h9 => ?_
  have h9 : SatL w9 (own (Row 2 51) (some ⟨q, 0, none⟩, 1, 1) (encs [(id, 1)]) :: _) := one_row h9
  refine same_rel h9 r8 (by omega) (hc.at (by omega) (by omega)) (by simp) (by simp) (d1 (K + 1) (by omega) ▸ okO_one) fun w10 r10 h10 => ⟨_, rfl, hk _ h10.sub⟩
end
end Go.Proofs.Ytnaeabcaennbjaa
