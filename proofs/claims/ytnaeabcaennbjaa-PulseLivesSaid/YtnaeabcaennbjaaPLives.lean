/- The law PulseLives: what its Go function answers. -/
import Derived.Test.YtnaeabcaennbjaaPLaw
import Derived.Test.YtnaeabcaennbjaaOld
set_option linter.unusedVariables false
set_option linter.unusedSimpArgs false
namespace Go.Proofs.Ytnaeabcaennbjaa
open Go
/-- Marks of loops over functions, and their blocks. -/
def Marks : List Nat → Unit → HProp
  | [], _ => fun h => sepL [] h
  | D :: l, _ => fun h => sepL [own Blk D (.deferred (some [])), Marks l ()] h
def marks (l : List Nat) : List Deferred := l.map fun D => { target := .collected D, args := #[] }
section
variable {w : World} {l r r' : List HProp} {k : Value → World → Prop} {b : Nat} {s : PS} {now now' : Int} {c : Int × Int × Int} {cs : List Cn} {y : Cn}
theorem marks_nil (h : SatL w r) : SatL w (own Marks [] () :: r) :=
  ⟨⟨fun _ => none, none⟩, HL.of w, ⟨fun _ => .inl rfl, .inl rfl⟩, HL.eq (fun n => by simp [HL.un]) (by simp [HL.un]), trivial, h⟩
theorem marks_cons {D : Nat} {ds : List Nat} (h : SatL w (own Blk D (.deferred (some [])) :: own Marks ds () :: r)) : SatL w (own Marks (D :: ds) () :: r) :=
  SatL.shut (A := own Marks (D :: ds) ()) (L := [own Blk D (.deferred (some [])), own Marks ds ()]) h fun x hx => hx
theorem closeD_marks {K : World → Prop} : ∀ {ds : List Nat} {w : World}, SatL w (own Marks ds () :: r) → (∀ w', SatL w' r → K w') → closeD K (marks ds) w
  | [], w, h, hk => hk w h.drop
  | D :: ds, w, h, hk => by
    have h2 : SatL w (own Blk D (.deferred (some [])) :: own Marks ds () :: r) := by
      obtain ⟨x, y, h1, h2, h3, h4⟩ := h
      exact sepL_append.2 ⟨x, y, h1, h2, h3, h4⟩
    show closeD K ({ target := .collected D, args := #[] } :: marks ds) w
    exact closeD_r h2 fun w' h3 => closeD_marks h3.drop hk
theorem lives_c {W : World} {p g : Int} {sl : Sl} {hs : List Bool} (hw : SatL w l) [f : FindO l Old W () r] (hin : SliceIn W 1 (fun x => [Value.bool x]) sl hs) (hp : 0 ≤ p ∧ p ≤ 255) (hg : 0 ≤ g ∧ g ≤ 255)
    (hk : ∀ w', SatL w' l → k (.bool true) w') : CALL Try.prog 3 #[.int .u8 p, .int .u8 g, slv sl] k w := by
  apply f3.call
  unfold f3.b
  refine awake_c hw fun w1 h1 => ⟨_, rfl, brF rfl ?_⟩
  have hlen := hin.1
  refine brD (fun _ => hk _ h1) fun h30 => RQ_r (by decide) (RQ_r (by decide) ?_)
  have h30 : hs.length ≤ 30 := by omega
  obtain ⟨A, hA⟩ : ∃ A, A = IntKind.wrap .i64 (1 + Int.tmod (IntKind.wrap .i64 p) 8) := ⟨_, rfl⟩
  obtain ⟨B, hB⟩ : ∃ B, B = IntKind.wrap .i64 (1 + Int.tmod (IntKind.wrap .i64 g) 8) := ⟨_, rfl⟩
  have hA2 : 1 ≤ A ∧ A ≤ 8 := by
    rw [hA, w64' (n := p) (by omega), Int.tmod_eq_emod_of_nonneg (by omega), w64' (by omega)]; omega
  have hB2 : 1 ≤ B ∧ B ≤ 8 := by
    rw [hB, w64' (n := g) (by omega), Int.tmod_eq_emod_of_nonneg (by omega), w64' (by omega)]; omega
  rw [← hA, ← hB]
  have hc : Cf (A, B, 1) 0 := ⟨by simp only; omega, by simp only; omega, by simp, by decide⟩
  have h3i : inI 3 := by unfold inI; decide
  refine new_c (h1.find (A := Old) W) fun b w2 h2 => ⟨_, rfl, ?_⟩
  have r2 : Rel (A, B, 1) (newS A B 1) [] 0 := new_rel hc
  have o2 := Pls.ok h2
  refine join_c h2 (small_of r2 o2 (by simp)) h3i fun w3 h3 => ⟨rfl, ?_⟩
  have r3 := join_rel (id := 3) r2 o2 hc
  have o3 := Pls.ok h3
  refine register_c h3 (small_of r3 o3 (by decide)) h3i fun w4 h4 => ⟨rfl, ?_⟩
  have r4 : Rel (A, B, 1) _ [⟨3, 0, true, false⟩] 0 := reg_rel (id := 3) r3 o3 hc
  -- asked: just where the ping's tick has gone by
  refine f3.L2_rule (fun last now ds w => ∃ (j : Nat) (t : Int) (s : PS) (asked : Bool) (ms : List Nat), now = (j : Int) + 1 ∧ j ≤ hs.length ∧ 0 ≤ last ∧ last ≤ j ∧ ds = marks ms ∧ (asked = true ↔ A ≤ (j : Int) - last) ∧ Rel (A, B, 1) s [⟨3, last, true, asked⟩] (j : Int) ∧
      SatL w (own Marks ms () :: own Pls b s :: own Old W () :: r)) (fun _ now _ _ => hs.length + 1 - now.toNat)
    ⟨0, 0, _, false, [], rfl, Nat.zero_le _, Int.le_refl _, Int.le_refl _, rfl, by simp; omega, r4, marks_nil h4⟩ ?_
  rintro last now ds w ⟨j, _, s, asked, ms, rfl, hj, hl0, hl1, rfl, hask, hr, h⟩
  clear h1 h2 h3 h4
  unfold f3.L2
  have hcn : Cf (A, B, 1) ((j : Int) + 1) := hc.at (by omega) (by omega)
  refine brD (fun hlt => ?_) fun hge => ?_
  · have hjl : j < hs.length := by omega
    have hx := List.getElem?_eq_getElem hjl
    rw [show IntKind.wrap .i64 ((j : Int) + 1 - 1) = (j : Int) by rw [w64'] <;> omega]
    have hJ4 : ∀ (w : World) (s : PS) (last : Int) (asked : Bool), 0 ≤ last → last ≤ (j : Int) + 1 → (asked = true ↔ (A ≤ (j : Int) - last)) → Rel (A, B, 1) s [⟨3, last, true, asked⟩] ((j : Int) + 1) →
        SatL w (own Marks ms () :: own Pls b s :: own Old W () :: r) →
        f3.J4 sl A B (some ⟨b, 0, none⟩) last ((j : Int) + 1) (f3.L2K sl A B (some ⟨b, 0, none⟩) (fun last now ds w => ∃ (j : Nat) (t : Int) (s : PS) (asked : Bool) (ms : List Nat), now = (j : Int) + 1 ∧ j ≤ hs.length ∧ 0 ≤ last ∧ last ≤ j ∧ ds = marks ms ∧ (asked = true ↔ A ≤ (j : Int) - last) ∧ Rel (A, B, 1) s [⟨3, last, true, asked⟩] (j : Int) ∧
          SatL w (own Marks ms () :: own Pls b s :: own Old W () :: r)) (fun _ now _ _ => hs.length + 1 - now.toNat) (hs.length + 1 - ((j : Int) + 1).toNat)) k (marks ms) w := by
      intro w s last asked hl0 hl1 hask hr h
      obtain ⟨wa, hwa⟩ : ∃ v, v = whatC (A, B, 1) ((j : Int) + 1) ⟨3, last, true, asked⟩ := ⟨_, rfl⟩
      have hwv : wa = if A + B ≤ (j : Int) + 1 - last then 3 else if (j : Int) + 1 - last = A then 2 else 0 := by
        rw [hwa]; unfold whatC
        simp only [if_true]
        by_cases h1 : A + B ≤ (j : Int) + 1 - last
        · rw [if_pos h1, if_pos h1]
        · rw [if_neg h1, if_neg h1]
          by_cases h2 : (j : Int) + 1 - last = A
          · rw [if_pos h2, if_pos ⟨by omega, by
              cases asked with
              | false => rfl
              | true => have := hask.1 rfl; omega⟩]
          · rw [if_neg h2, if_neg]
            rintro ⟨h3, h4⟩
            have h5 : A ≤ (j : Int) - last := by omega
            rw [hask.2 h5] at h4; cases h4
      have hJ6 : ∀ want, want = wa → f3.J6 sl A B (some ⟨b, 0, none⟩) last ((j : Int) + 1) want (f3.L2K sl A B (some ⟨b, 0, none⟩) (fun last now ds w => ∃ (j : Nat) (t : Int) (s : PS) (asked : Bool) (ms : List Nat), now = (j : Int) + 1 ∧ j ≤ hs.length ∧ 0 ≤ last ∧ last ≤ j ∧ ds = marks ms ∧ (asked = true ↔ A ≤ (j : Int) - last) ∧ Rel (A, B, 1) s [⟨3, last, true, asked⟩] (j : Int) ∧
          SatL w (own Marks ms () :: own Pls b s :: own Old W () :: r)) (fun _ now _ _ => hs.length + 1 - now.toNat) (hs.length + 1 - ((j : Int) + 1).toNat)) k (marks ms) w := by
        rintro want rfl
        have hok := Pls.ok (h.sub (l' := own Pls b s :: r))
        unfold f3.J6
        refine pdue_c h (small_of hr hok (by simp)) fun q1 q2 bm sl2 ids w1 hp hm h1 => ⟨_, rfl, FNIL_f (brF rfl ?_)⟩
        have hidl := ids_len (small_of hr hok (by simp)) hp hm
        have hd := due_eq hr hok hcn hp hm (okO_one (c := (A, B, 1)) (now := (j : Int) + 1) (y := ⟨3, last, true, asked⟩))
        refine AL_r h1 fun q w2 h2 => ST_r h2 (by simp) rfl fun w3 h3 => ?_
        simp only [List.setIfInBounds_toArray, List.set_cons_zero] at h3
        clear h1 h2
        refine f3.R8_rule rfl Try.call30 h3 fun rec L D w4 yl h4 => ?_
        obtain ⟨G, hG⟩ : ∃ G : Nat → Int, G = fun i => if i = 0 then 0 else ((ids[i - 1]?).map fun x => ((s.what ((j : Int) + 1)) x).getD 0).getD 0 := ⟨_, rfl⟩
        refine iter30 (m := s.what ((j : Int) + 1)) (ids := ids) (q1 := q1) (q2 := q2) (bm := bm) (sl := sl2) (by omega) L (fun i l' => l' = own Blk L (.loop (rec .ready none)) :: own Blk D (.deferred (some [])) :: own Blk q (.cells #[.int .i64 (G i)] 3 (0, 0)) :: own Marks ms () :: own Pls b (s.due ((j : Int) + 1)) :: own Old W () :: r) (fun _ => False) _ _ _ rfl ?_ ?_ ?_ (fun _ h => h.elim)
        · have e0 : G 0 = 0 := by rw [hG]; rfl
          rw [e0]; exact h4.sub
        · rintro i x w l hx rfl hw
          refine yl (hw.find (A := Blk) L) ?_
          unfold f3.R8
          refine BG_n hw fun w2 h2 => ?_
          unfold f3.R8b
          refine ST_r h2 (by simp) rfl fun w3 h3 => rdE_n h3 fun w4 h4 => .inl ⟨rfl, _, rfl, ?_⟩
          simp only [List.setIfInBounds_toArray, List.set_cons_zero] at h4
          have e1 : G (i + 1) = ((s.what ((j : Int) + 1)) x).getD 0 := by rw [hG]; simp [hx]
          rw [e1]; exact h4.sub
        · rintro l w rfl hw
          refine ⟨_, hw.find (A := Blk) L, fun w5 h5 => ?_⟩
          unfold f3.R8A f3.J7
          refine LD_r h5 (x := G ids.length) rfl ?_
          have hgw : G ids.length = want := by
            rw [hwa, hG]
            have hdl : (dueL (s.what ((j : Int) + 1)) ids).length = ids.length := by simp [dueL]
            unfold dueOne at hd
            by_cases h0 : whatC (A, B, 1) ((j : Int) + 1) ⟨3, last, true, asked⟩ = 0
            · rw [if_pos h0] at hd
              rw [← hd] at hdl
              have : ids.length = 0 := by simpa using hdl.symm
              simp [this, h0]
            · rw [if_neg h0] at hd
              match ids, hd with
              | [], hd => simp [dueL] at hd
              | [x], hd =>
                simp [dueL] at hd
                simp [hd.2]
              | x :: y :: z, hd => simp [dueL] at hd
          rw [hgw]
          refine brF (by simp) ?_
          unfold f3.J3
          rw [show IntKind.wrap .i64 ((j : Int) + 1 + 1) = ((j + 1 : Nat) : Int) + 1 by rw [w64'] <;> omega]
          have hr2 := due_rel hr hok hcn
          have ea : askC (A, B, 1) ((j : Int) + 1) ⟨3, last, true, asked⟩ = ⟨3, last, true, asked || decide (want = 2)⟩ := by
            unfold askC
            rw [← hwa]
            by_cases h2 : want = 2
            · rw [if_pos h2]; simp [h2]
            · rw [if_neg h2]; simp [h2]
          simp only [List.map_cons, List.map_nil, ea] at hr2
          refine f3.L2_next ⟨j + 1, 0, s.due ((j : Int) + 1), asked || decide (want = 2), D :: ms, rfl, hjl, hl0, by omega, rfl, ?_, ?_, marks_cons h5.sub⟩ (by omega)
          · rw [Bool.or_eq_true, decide_eq_true_iff, hask, hwv]
            by_cases h1 : A + B ≤ (j : Int) + 1 - last
            · rw [if_pos h1]; omega
            · rw [if_neg h1]; split <;> omega
          · rw [show ((j + 1 : Nat) : Int) = (j : Int) + 1 by omega]; exact hr2
      unfold f3.J4
      rw [show IntKind.wrap .i64 ((j : Int) + 1 - last) = (j : Int) + 1 - last by rw [w64'] <;> omega]
      have hJ5 : ∀ want, (want = if (j : Int) + 1 - last = A then 2 else 0) → f3.J5 sl A B (some ⟨b, 0, none⟩) last ((j : Int) + 1) want (f3.L2K sl A B (some ⟨b, 0, none⟩) (fun last now ds w => ∃ (j : Nat) (t : Int) (s : PS) (asked : Bool) (ms : List Nat), now = (j : Int) + 1 ∧ j ≤ hs.length ∧ 0 ≤ last ∧ last ≤ j ∧ ds = marks ms ∧ (asked = true ↔ A ≤ (j : Int) - last) ∧ Rel (A, B, 1) s [⟨3, last, true, asked⟩] (j : Int) ∧
          SatL w (own Marks ms () :: own Pls b s :: own Old W () :: r)) (fun _ now _ _ => hs.length + 1 - now.toNat) (hs.length + 1 - ((j : Int) + 1).toNat)) k (marks ms) w := by
        intro want hwt
        unfold f3.J5
        rw [show IntKind.wrap .i64 ((j : Int) + 1 - last) = (j : Int) + 1 - last by rw [w64'] <;> omega, show IntKind.wrap .i64 (A + B) = A + B by rw [w64'] <;> omega]
        refine brD (fun h1 => hJ6 3 ?_) fun h1 => hJ6 want ?_
        · rw [hwv, if_pos h1]
        · rw [hwv, if_neg h1, hwt]
      exact brE (fun h1 => hJ5 2 (by rw [if_pos h1])) fun h1 => hJ5 0 (by rw [if_neg h1])
    refine IX_in hin (by omega) (by rw [Int.toNat_natCast]; exact hx) fun a hcell => ?_
    have hc0 := hcell 0 _ rfl
    rw [show (a.add ((j : Int).toNat * 1)).add 0 = a.add ((j : Int).toNat * 1) by rw [Go.Deep.add_add, Nat.add_zero]] at hc0
    refine LD_old h hc0 (br (fun hb => ?_) fun hb => ?_)
    · have hok := Pls.ok (h.sub (l' := own Pls b s :: r))
      have hr1 := hr.later (now' := (j : Int) + 1) (by omega)
      refine line_c h (small_of hr hok (by simp)) h3i fun w2 h2 => ⟨rfl, ?_⟩
      have h3 := line_rel (id := 3) hr1 hok hcn
      have e : lineC 3 ((j : Int) + 1) [⟨3, last, true, asked⟩] = [⟨3, (j : Int) + 1, true, false⟩] := by simp [lineC, atC]
      rw [e] at h3
      exact hJ4 w2 _ ((j : Int) + 1) false (by omega) (Int.le_refl _) (by simp; omega) h3 h2.sub
    · exact hJ4 w s last asked hl0 (by omega) hask (hr.later (by omega)) h
  · unfold f3.J1
    exact closeD_marks h fun w' h2 => hk _ ((h2.sub (l' := own Old W () :: r)).perm f.perm.symm)
end
end Go.Proofs.Ytnaeabcaennbjaa
