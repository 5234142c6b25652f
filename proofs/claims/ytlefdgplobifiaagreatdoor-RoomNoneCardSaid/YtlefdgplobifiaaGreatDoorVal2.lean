/- Clean, Key, and the reference's; the law's topic. -/
import Derived.Test.YtlefdgplobifiaaGreatDoorVal
import Derived.Test.YtlefdgplobifiaaGreatDoorGA
set_option linter.unusedVariables false
set_option linter.unusedSimpArgs false
namespace Go.Proofs.YtlefdgplobifiaaGreatDoor
open Go
def okT (c : UInt8) : Bool := c != 0 && c != 10 && c != 13
def keyB (c : UInt8) : Bool := decide (33 ≤ c.toNat) && decide (c.toNat ≤ 126) && c != 44
def keyOK (s : List UInt8) : Bool := decide (1 ≤ s.length) && decide (s.length ≤ 23) && s.all keyB && s.head? != some 58
def cleanB (s : List UInt8) (most : Nat) : List UInt8 := (s.filter okT).take most
def masks (m : Int) (f : UInt8 → Bool) : Bool := (List.range 256).all fun n => (intBit .and .u16 (kv n) m == 0) == !f (UInt8.ofNat n)
theorem masks_out {m : Int} {f : UInt8 → Bool} (h : masks m f = true) (c : UInt8) : (intBit .and .u16 (kv c.toNat) m == 0) = !f c := by
  unfold masks at h
  rw [List.all_eq_true] at h
  have := h c.toNat (by simp [c.toNat_lt])
  simpa using this
theorem mask_text : masks 64 okT = true := by decide +kernel
theorem mask_key : masks 32 keyB = true := by decide +kernel
section
variable {w : World} {l r : List HProp} {k : Value → World → Prop}
/-- A table of kinds, in a box of its own. -/
theorem kindsBox {K : Nat → World → Prop} (hw : SatL w l) (hk : ∀ q w', SatL w' (own Blk q (.cells (kindL 256).toArray 117 (0, 0)) :: l) → K q w') :
    CALL Tryz.prog 88 #[] (fun v w => ∃ c : Array Value, v = .agg c ∧ AL (.cells (Array.replicate 256 (.int .u16 0)) 117) (fun q w => RQ (Array.size c = 256) (stAll ⟨q, 0, none⟩ (fun w => K q w) (Array.toList c) 0 w)) w) w := by
  refine kinds_c hw fun w h => ⟨_, rfl, AL_r h fun q w h => ?_⟩
  refine RQ_r (by rw [List.size_toArray, kindL_len]) ?_
  rw [← List.toArray_replicate] at h
  exact stAll_all h (by rw [List.length_replicate, kindL_len]) (kindL_one 256) fun w h => hk _ _ h
theorem kind_at {q : Nat} {c : UInt8} {k : Int → World → Prop} (hw : SatL w l) [f : FindO l Blk q (.cells (kindL 256).toArray 117 (0, 0)) r] (hk : k (kv c.toNat) w) :
    RQ (0 ≤ ((c.toNat : Nat) : Int) ∧ ((c.toNat : Nat) : Int) < ((256 : Nat) : Int)) (LD (Value.int .u16) (Addr.add ⟨q, 0, none⟩ (Int.toNat ((c.toNat : Nat) : Int) * 1)) k w) := by
  have hc := c.toNat_lt
  refine RQ_r (by omega) ?_
  simp only [Addr.add_mk, Int.toNat_natCast, Nat.mul_one, Nat.zero_add]
  exact LD_r hw (x := kv c.toNat) (by rw [List.getElem?_toArray, kindL_get (by omega)]) hk
theorem all_c {s : List UInt8} {least most m : Int} {f : UInt8 → Bool} (hm : masks m f = true) (hw : SatL w l) (hs : s.length < 9223372036854775807)
    (hk : ∀ w', SatL w' l → k (.bool (decide (least ≤ s.length) && decide ((s.length : Int) ≤ most) && s.all f)) w') : CALL Tryz.prog 100 #[.string (St s), .int .i64 least, .int .i64 most, .int .u16 m] k w := by
  apply f100.call
  unfold f100.b
  simp only [St_size]
  refine brD (fun h1 => ?_) fun h1 => brD (fun h2 => ?_) fun h2 => ?_
  · have := hk _ hw; rwa [show decide (least ≤ (s.length : Int)) = false from decide_eq_false (by omega)] at this
  · have := hk _ hw; rwa [show decide ((s.length : Int) ≤ most) = false from decide_eq_false (by omega), Bool.and_false] at this
  rw [show decide (least ≤ (s.length : Int)) = true from decide_eq_true (by omega), show decide ((s.length : Int) ≤ most) = true from decide_eq_true (by omega), Bool.true_and, Bool.true_and] at hk
  refine kindsBox hw fun q w h => ?_
  refine f100.L2_rule (fun i w => (∃ j : Nat, i = j ∧ j ≤ s.length ∧ (s.take j).all f = true) ∧ SatL w (own Blk q (.cells (kindL 256).toArray 117 (0, 0)) :: l)) (fun i _ => (s.length - i).toNat) ⟨⟨0, rfl, by omega, by simp⟩, h⟩ ?_
  rintro i w ⟨⟨j, rfl, hj, ha⟩, h⟩
  unfold f100.L2
  refine brD (fun h1 => ?_) fun h1 => ?_
  · have h1 : j < s.length := by omega
    refine SIX_r (b := s[j]) (by omega) (by simp [h1]) (kind_at h ?_)
    rw [masks_out hm]
    refine br (fun h3 => ?_) fun h3 => ?_
    · have := hk _ h.drop
      have e : s.all f = false := by
        rw [Bool.eq_false_iff]
        intro ht
        rw [List.all_eq_true] at ht
        have := ht s[j] (List.getElem_mem h1)
        simp [this] at h3
      rwa [e] at this
    · refine f100.L2_next ⟨⟨j + 1, by rw [w64'] <;> omega, by omega, ?_⟩, h⟩ (by rw [w64'] <;> omega)
      rw [take_one (l := s) (i := j) (x := s[j]) (by simp [h1]), List.all_append, ha]
      simpa using h3
  · have e : j = s.length := by omega
    subst e
    rw [List.take_length] at ha
    unfold f100.J1
    have := hk _ h.drop
    rwa [ha] at this
theorem key_c {s : List UInt8} (hw : SatL w l) (hs : s.length < 9223372036854775807) (hk : ∀ w', SatL w' l → k (.bool (keyOK s)) w') : CALL Tryz.prog 69 #[.string (St s)] k w := by
  apply f69.call
  unfold f69.b
  refine all_c mask_key hw hs fun w h => ⟨_, rfl, ?_⟩
  have hk := hk _ h
  unfold keyOK at hk
  refine br (fun h1 => ?_) fun h1 => ?_
  · simp only [Bool.and_eq_true, decide_eq_true_eq] at h1
    obtain ⟨⟨h1, h2⟩, h3⟩ := h1
    cases s with
    | nil => simp at h1
    | cons c s =>
      refine SIX_r (b := c) (by omega) (by simp) ?_
      have e : (decide (1 ≤ (c :: s).length) && decide ((c :: s).length ≤ 23) && (c :: s).all keyB && (c :: s).head? != some 58) = (((c.toNat : Nat) : Int) != 58) := by
        rw [h3, show decide (1 ≤ (c :: s).length) = true from decide_eq_true (by simp), show decide ((c :: s).length ≤ 23) = true from decide_eq_true (by omega), Bool.true_and, Bool.true_and, Bool.true_and, Bool.eq_iff_iff]
        simp only [List.head?_cons, bne_iff_ne, ne_eq, Option.some.injEq]
        rw [← UInt8.toNat_inj]
        simp; omega
      rwa [e] at hk
  · have e : (decide (1 ≤ s.length) && decide (s.length ≤ 23) && s.all keyB && s.head? != some 58) = false := by
      rw [Bool.eq_false_iff] at h1 ⊢
      intro h2
      apply h1
      simp only [Bool.and_eq_true, decide_eq_true_eq] at h2 ⊢
      obtain ⟨⟨⟨h2, h3⟩, h4⟩, _⟩ := h2
      exact ⟨⟨by omega, by omega⟩, h4⟩
    rwa [e] at hk
theorem refKey_c {s : List UInt8} (hw : SatL w l) (hs : s.length < 9223372036854775807) (hk : ∀ w', SatL w' l → k (.bool (keyOK s)) w') : CALL Tryz.prog 58 #[.string (St s)] k w := by
  apply f58.call
  unfold f58.b
  refine f58.L2_rule (fun i w => (∃ j : Nat, i = j ∧ j ≤ s.length ∧ (s.take j).all keyB = true) ∧ SatL w l) (fun i _ => (s.length - i).toNat) ⟨⟨0, rfl, by omega, by simp⟩, hw⟩ ?_
  rintro i w ⟨⟨j, rfl, hj, ha⟩, h⟩
  unfold f58.L2
  simp only [St_size]
  refine brD (fun h1 => ?_) fun h1 => ?_
  · have h1 : j < s.length := by omega
    have hx : s[((j : Nat) : Int).toNat]? = some s[j] := by simp [h1]
    have bad : keyB s[j] = false → k (.bool false) w := fun hb => by
      have hk := hk _ h
      have e : keyOK s = false := by
        unfold keyOK
        have : s.all keyB = false := by
          rw [Bool.eq_false_iff]
          intro ht
          rw [List.all_eq_true] at ht
          rw [ht s[j] (List.getElem_mem h1)] at hb
          cases hb
        simp [this]
      rwa [e] at hk
    refine SIX_r (b := s[j]) (by omega) hx (brD (fun h2 => bad (by simp [keyB]; omega)) fun h2 => SIX_r (b := s[j]) (by omega) hx (brD (fun h3 => bad (by simp [keyB]; omega)) fun h3 => SIX_r (b := s[j]) (by omega) hx (brE (fun h4 => bad ?_) fun h4 => ?_)))
    · have : s[j] = 44 := u8_inj (by rw [h4]; rfl)
      simp [keyB, this]
    · refine f58.L2_next ⟨⟨j + 1, by rw [w64'] <;> omega, by omega, ?_⟩, h⟩ (by rw [w64'] <;> omega)
      rw [take_one (l := s) (i := j) (x := s[j]) (by simp [h1]), List.all_append, ha]
      have : s[j] ≠ 44 := fun e => h4 (by rw [e]; rfl)
      simp [keyB, this]; omega
  · have e : j = s.length := by omega
    subst e
    rw [List.take_length] at ha
    unfold f58.J1
    have hk := hk _ h
    unfold keyOK at hk
    rw [ha] at hk
    simp only [St_size]
    refine brD (fun h2 => brD (fun h3 => ?_) fun h3 => ?_) fun h2 => ?_
    · cases s with
      | nil => simp at h2
      | cons c s =>
        refine SIX_r (b := c) (by omega) (by simp) ?_
        have e : (decide (1 ≤ (c :: s).length) && decide ((c :: s).length ≤ 23) && true && (c :: s).head? != some 58) = (((c.toNat : Nat) : Int) != 58) := by
          rw [show decide (1 ≤ (c :: s).length) = true from decide_eq_true (by simp), show decide ((c :: s).length ≤ 23) = true from decide_eq_true (by omega), Bool.true_and, Bool.true_and, Bool.eq_iff_iff]
          simp only [List.head?_cons, Bool.true_and, bne_iff_ne, ne_eq, Option.some.injEq]
          rw [← UInt8.toNat_inj]
          simp; omega
        rwa [e] at hk
    · rwa [show decide (s.length ≤ 23) = false from decide_eq_false (by omega), Bool.and_false, Bool.false_and, Bool.false_and] at hk
    · rwa [show decide (1 ≤ s.length) = false from decide_eq_false (by omega), Bool.false_and, Bool.false_and, Bool.false_and] at hk
/-! ### Clean -/
theorem okT_eq (c : UInt8) : okT c = (((c.toNat : Nat) : Int) != 0 && ((c.toNat : Nat) : Int) != 10 && ((c.toNat : Nat) : Int) != 13) := by
  have h : ∀ d : UInt8, (c != d) = (((c.toNat : Nat) : Int) != ((d.toNat : Nat) : Int)) := fun d => by
    rw [Bool.eq_iff_iff]; simp only [bne_iff_ne, ne_eq]
    exact not_congr ⟨fun e => by rw [e], u8_inj⟩
  unfold okT
  rw [h 0, h 10, h 13]; rfl
theorem clean_len (s : List UInt8) (m : Nat) : (cleanB s m).length ≤ s.length := by
  unfold cleanB
  rw [List.length_take]
  exact Nat.le_trans (Nat.min_le_right _ _) (List.length_filter_le _ _)
theorem clean_le (s : List UInt8) (m : Nat) : (cleanB s m).length ≤ m := by
  unfold cleanB; rw [List.length_take]; exact Nat.min_le_left _ _
/-- The next byte. -/
theorem clean_next {s : List UInt8} {j m : Nat} (hj : j < s.length) : cleanB (s.take (j + 1)) m = if okT s[j] && decide ((cleanB (s.take j) m).length < m) then cleanB (s.take j) m ++ [s[j]] else cleanB (s.take j) m := by
  rw [take_one (l := s) (i := j) (x := s[j]) (by simp [hj])]
  unfold cleanB
  rw [List.filter_append]
  obtain ⟨F, hF⟩ : ∃ F, F = (s.take j).filter okT := ⟨_, rfl⟩
  rw [← hF]
  cases h : okT s[j] with
  | false => simp [List.filter_cons, h]
  | true =>
    rw [List.length_take, List.take_append]
    simp only [List.filter_cons, h, if_true, List.filter_nil, Bool.true_and]
    by_cases h2 : F.length < m
    · rw [if_pos (by simp; omega), List.take_of_length_le (l := F) (by omega)]
      congr 1
      rw [List.take_of_length_le (by simp; omega)]
    · rw [if_neg (by simp; omega), show m - F.length = 0 by omega]; simp
theorem clean_full {s : List UInt8} {j m : Nat} (h : m ≤ (cleanB (s.take j) m).length) : cleanB s m = cleanB (s.take j) m := by
  have h1 : s = s.take j ++ s.drop j := (List.take_append_drop j s).symm
  obtain ⟨F, hF⟩ : ∃ F, F = (s.take j).filter okT := ⟨_, rfl⟩
  unfold cleanB at h ⊢
  conv => lhs; rw [h1]
  rw [List.filter_append, ← hF]
  rw [← hF, List.length_take] at h
  rw [List.take_append, show m - F.length = 0 by omega]; simp
theorem clean_c {s : List UInt8} {m : Int} (hw : SatL w l) (hs : s.length < 70368744177664) (hk : ∀ w', SatL w' l → k (.string (St (cleanB s m.toNat))) w') : CALL Tryz.prog 54 #[.string (St s), .int .i64 m] k w := by
  apply f54.call
  unfold f54.b
  refine kindsBox hw fun q w h => AL_r h fun b w h => ?_
  have h := Bld.new h
  refine f54.L2_rule (fun i w => (∃ j : Nat, i = j ∧ j ≤ s.length ∧ SatL w (own Bld b (cleanB (s.take j) m.toNat) :: own Blk q (.cells (kindL 256).toArray 117 (0, 0)) :: l))) (fun i _ => (s.length - i).toNat) ⟨0, rfl, by omega, by simpa [cleanB] using h⟩ ?_
  rintro i w ⟨j, rfl, hj, h⟩
  unfold f54.L2
  simp only [St_size]
  refine brD (fun h1 => ?_) fun h1 => ?_
  · have h1 : j < s.length := by omega
    have hx : s[((j : Nat) : Int).toNat]? = some s[j] := by simp [h1]
    have hcl := clean_len (s.take j) m.toNat
    have htl := List.length_take_le j s
    refine bldLen_c h ⟨_, rfl, brD (fun h2 => ?_) fun h2 => ?_⟩
    · refine SIX_r (b := s[j]) (by omega) hx (kind_at h ?_)
      have e := masks_out mask_text s[j]
      rw [show (intBit .and .u16 (kv s[j].toNat) 64 != 0) = okT s[j] by rw [bne, e, Bool.not_not]]
      have hn := clean_next (s := s) (j := j) (m := m.toNat) h1
      refine br (fun h3 => SIX_r (b := s[j]) (by omega) hx (writeByte_c h (by omega) fun w h => ⟨_, rfl, ?_⟩)) fun h3 => ?_
      · rw [if_pos (by rw [h3]; simp; omega)] at hn
        exact f54.L2_next ⟨j + 1, by rw [w64'] <;> omega, by omega, by rw [hn]; exact h⟩ (by rw [w64'] <;> omega)
      · rw [if_neg (by simp [h3])] at hn
        exact f54.L2_next ⟨j + 1, by rw [w64'] <;> omega, by omega, by rw [hn]; exact h⟩ (by rw [w64'] <;> omega)
    · unfold f54.J1
      refine bldString_c h (by omega) fun w h => ⟨_, rfl, ?_⟩
      rw [← clean_full (s := s) (by omega)]
      exact hk _ h.drop
  · have e : j = s.length := by omega
    subst e
    rw [List.take_length] at h
    unfold f54.J1
    have := clean_len s m.toNat
    exact bldString_c h (by omega) fun w h => ⟨_, rfl, hk _ h.drop⟩
theorem take1 {s : List UInt8} {j : Nat} (h : j < s.length) : (s.take (j + 1)).drop j = [s[j]] := by
  rw [take_one (l := s) (i := j) (x := s[j]) (by simp [h]), List.drop_append]
  have hl : (s.take j).length = j := by rw [List.length_take]; omega
  rw [List.drop_of_length_le (by omega), hl, Nat.sub_self]; rfl
theorem refClean_c {s : List UInt8} {m : Int} (hw : SatL w l) (hs : s.length < 70368744177664) (hk : ∀ w', SatL w' l → k (.string (St (cleanB s m.toNat))) w') : CALL Tryz.prog 95 #[.string (St s), .int .i64 m] k w := by
  apply f95.call
  unfold f95.b
  refine f95.L2_rule (fun t i w => (∃ j : Nat, i = j ∧ j ≤ s.length ∧ t = St (cleanB (s.take j) m.toNat)) ∧ SatL w l) (fun _ i _ => (s.length - i).toNat) ⟨⟨0, rfl, by omega, by simp [cleanB, St]⟩, hw⟩ ?_
  rintro t i w ⟨⟨j, rfl, hj, rfl⟩, h⟩
  unfold f95.L2
  rw [St_size]
  refine brD (fun h1 => ?_) fun h1 => ?_
  · have h1 : j < s.length := by omega
    have hx : s[((j : Nat) : Int).toNat]? = some s[j] := by simp [h1]
    have hcl := clean_len (s.take j) m.toNat
    have htl := List.length_take_le j s
    have e1 : IntKind.wrap .i64 ((j : Int) + 1) = ((j + 1 : Nat) : Int) := by rw [w64'] <;> omega
    have hn := clean_next (s := s) (j := j) (m := m.toNat) h1
    have he := okT_eq s[j]
    have J4 : f95.J4 (St s) m (St (cleanB (s.take j) m.toNat)) j (okT s[j] && decide (((cleanB (s.take j) m.toNat).length : Int) < m)) (f95.L2K (St s) m (fun t i w => (∃ j : Nat, i = j ∧ j ≤ s.length ∧ t = St (cleanB (s.take j) m.toNat)) ∧ SatL w l) (fun _ i _ => (s.length - i).toNat) ((s.length - (j : Int)).toNat)) k w := by
      unfold f95.J4 f95.J3
      rw [e1]
      simp only [Int.toNat_natCast, St_ext, take1 h1, St_size, St_app]
      refine br (fun h2 => RQ_r (by omega) (RQ_r (by omega) (RQ_r (by simp; omega) ?_))) fun h2 => ?_
      · simp only [Bool.and_eq_true, decide_eq_true_eq] at h2
        rw [if_pos (by rw [h2.1]; simp; omega)] at hn
        exact f95.L2_next ⟨⟨j + 1, rfl, by omega, by rw [hn]⟩, h⟩ (by omega)
      · rw [if_neg (by
          rw [Bool.eq_false_iff] at h2
          intro h3
          apply h2
          simp only [Bool.and_eq_true, decide_eq_true_eq] at h3 ⊢
          exact ⟨h3.1, by omega⟩)] at hn
        exact f95.L2_next ⟨⟨j + 1, rfl, by omega, by rw [hn]⟩, h⟩ (by omega)
    rw [he] at J4
    refine SIX_r (b := s[j]) (by omega) hx ?_
    unfold f95.O5
    refine br (fun h2 => SIX_r (b := s[j]) (by omega) hx ?_) fun h2 => ?_
    · rw [h2] at J4
      unfold f95.O6
      refine br (fun h3 => SIX_r (b := s[j]) (by omega) hx ?_) fun h3 => ?_
      · rw [h3] at J4
        unfold f95.O7
        rw [St_size]
        refine br (fun h4 => ?_) fun h4 => ?_
        · rw [h4] at J4; exact J4
        · rw [h4] at J4; exact J4
      · rw [h3] at J4
        unfold f95.O7
        exact brF rfl (by exact J4)
    · rw [h2] at J4
      unfold f95.O6
      refine brF rfl ?_
      unfold f95.O7
      exact brF rfl (by exact J4)
  · have e : j = s.length := by omega
    subst e
    unfold f95.J1
    have := hk _ h
    rwa [List.take_length]
def tLen : Nat := 200
set_option maxRecDepth 3000 in
theorem topic_c {s : List UInt8} (hw : SatL w l) (hs : s.length < 70368744177664) (hk : ∀ w', SatL w' l → k (.string (St (cleanB s tLen))) w') : CALL Tryz.prog 34 #[.string (St s)] k w := by
  have hM : tLen = 200 := rfl
  apply f34.call
  unfold f34.b
  refine f34.L2_rule (fun t i w => (∃ j : Nat, i = j ∧ j ≤ s.length ∧ t = St (cleanB (s.take j) tLen)) ∧ SatL w l) (fun _ i _ => (s.length - i).toNat) ⟨⟨0, rfl, by omega, by simp [cleanB, St]⟩, hw⟩ ?_
  rintro t i w ⟨⟨j, rfl, hj, rfl⟩, h⟩
  unfold f34.L2
  rw [St_size]
  refine brD (fun h1 => ?_) fun h1 => ?_
  · have h1 : j < s.length := by omega
    have hx : s[((j : Nat) : Int).toNat]? = some s[j] := by simp [h1]
    have hcl := clean_len (s.take j) tLen
    have htl := List.length_take_le j s
    have e1 : IntKind.wrap .i64 ((j : Int) + 1) = ((j + 1 : Nat) : Int) := by rw [w64'] <;> omega
    have hn := clean_next (s := s) (j := j) (m := tLen) h1
    have he := okT_eq s[j]
    have J4 : f34.J4 (St s) (St (cleanB (s.take j) tLen)) j (okT s[j] && decide (((cleanB (s.take j) tLen).length : Int) < 200)) (f34.L2K (St s) (fun t i w => (∃ j : Nat, i = j ∧ j ≤ s.length ∧ t = St (cleanB (s.take j) tLen)) ∧ SatL w l) (fun _ i _ => (s.length - i).toNat) ((s.length - (j : Int)).toNat)) k w := by
      unfold f34.J4 f34.J3
      rw [e1]
      simp only [Int.toNat_natCast, St_ext, take1 h1, St_size, St_app]
      refine br (fun h2 => RQ_r (by omega) (RQ_r (by omega) (RQ_r (by simp; omega) ?_))) fun h2 => ?_
      · simp only [Bool.and_eq_true, decide_eq_true_eq] at h2
        rw [if_pos (by rw [h2.1]; simp; omega)] at hn
        exact f34.L2_next ⟨⟨j + 1, rfl, by omega, by rw [hn]⟩, h⟩ (by omega)
      · rw [if_neg (by
          rw [Bool.eq_false_iff] at h2
          intro h3
          apply h2
          simp only [Bool.and_eq_true, decide_eq_true_eq] at h3 ⊢
          exact ⟨h3.1, by omega⟩)] at hn
        exact f34.L2_next ⟨⟨j + 1, rfl, by omega, by rw [hn]⟩, h⟩ (by omega)
    rw [he] at J4
    refine SIX_r (b := s[j]) (by omega) hx ?_
    unfold f34.O5
    refine br (fun h2 => SIX_r (b := s[j]) (by omega) hx ?_) fun h2 => ?_
    · rw [h2] at J4
      unfold f34.O6
      refine br (fun h3 => SIX_r (b := s[j]) (by omega) hx ?_) fun h3 => ?_
      · rw [h3] at J4
        unfold f34.O7
        rw [St_size]
        refine br (fun h4 => ?_) fun h4 => ?_
        · rw [h4] at J4; simp only [Bool.true_and, Bool.and_true, Bool.false_and, Bool.and_false] at J4; exact J4
        · rw [h4] at J4; simp only [Bool.true_and, Bool.and_true, Bool.false_and, Bool.and_false] at J4; exact J4
      · rw [h3] at J4
        unfold f34.O7
        exact brF rfl (by simp only [Bool.true_and, Bool.and_true, Bool.false_and, Bool.and_false] at J4; exact J4)
    · rw [h2] at J4
      unfold f34.O6
      refine brF rfl ?_
      unfold f34.O7
      exact brF rfl (by simp only [Bool.true_and, Bool.and_true, Bool.false_and, Bool.and_false] at J4; exact J4)
  · have e : j = s.length := by omega
    subst e
    unfold f34.J1
    have := hk _ h
    rwa [List.take_length]
end
end Go.Proofs.YtlefdgplobifiaaGreatDoor
