/- The reference's pulse: its methods but Due. -/
import Derived.Test.YtnaeabcaennbjaaEncG
import Derived.Test.YtnaeabcaennbjaaGE
import Derived.Test.YtnaeabcaennbjaaBin
set_option linter.unusedVariables false
set_option linter.unusedSimpArgs false
namespace Go.Proofs.Ytnaeabcaennbjaa
open Go
structure Cn where
  id : Int
  t : Int
  inn : Bool
  asked : Bool
deriving DecidableEq
def encC (c : Cn) : List Value := [.int .i64 c.id, .int .i64 c.t, .bool c.inn, .bool c.asked]
theorem encC_len (c : Cn) : (encC c).length = 4 := rfl
theorem encC_one (c : Cn) : ∀ v ∈ encC c, v.oneCell' = true := by
  intro v hv; simp [encC] at hv; rcases hv with rfl | rfl | rfl | rfl <;> rfl
def RP (b : Nat) (x : (Int × Int × Int) × List Cn) : HProp := fun h => ∃ s, sepL [own Blk b (.cells #[.int .i64 x.1.1, .int .i64 x.1.2.1, .int .i64 x.1.2.2, slv s] 37 (0, 0)), own (Row 4 48) s (encF encC x.2)] h
def atC (id : Int) (cs : List Cn) : Option Nat := cs.findIdx? (·.id == id)
def atI (id : Int) (cs : List Cn) : Int := match atC id cs with | some i => (i : Int) | none => -1
section
variable {w : World} {l r : List HProp} {k : Value → World → Prop} {b : Nat} {c : Int × Int × Int} {cs : List Cn} {id now : Int}
theorem RP.out (h : SatL w (own RP b (c, cs) :: r)) : ∃ s, SatL w (own Blk b (.cells #[.int .i64 c.1, .int .i64 c.2.1, .int .i64 c.2.2, slv s] 37 (0, 0)) :: own (Row 4 48) s (encF encC cs) :: r) := by
  obtain ⟨x, y, h1, h2, ⟨s, h3⟩, h4⟩ := h
  exact ⟨s, sepL_append.2 ⟨x, y, h1, h2, h3, h4⟩⟩
theorem RP.mk {s : Sl} (h : SatL w (own Blk b (.cells #[.int .i64 c.1, .int .i64 c.2.1, .int .i64 c.2.2, slv s] 37 (0, 0)) :: own (Row 4 48) s (encF encC cs) :: r)) : SatL w (own RP b (c, cs) :: r) :=
  SatL.shut (L := [_, _]) h fun x hx => ⟨s, hx⟩
theorem rat_c (hw : SatL w l) [f : FindO l RP b (c, cs) r] (hn : cs.length ≤ 100000) (hk : k (.int .i64 (atI id cs)) w) : CALL Try.prog 20 #[.pointer (some ⟨b, 0, none⟩), .int .i64 id] k w := by
  obtain ⟨s, h⟩ := RP.out (hw.find (A := RP) b)
  have hl := Row.enc_len encC_len (by decide) h.drop
  apply f20.call
  unfold f20.b
  refine f20.L2_rule (fun n w' => ∃ i : Nat, n = i ∧ i ≤ cs.length ∧ (∀ m x, m < i → cs[m]? = some x → x.id ≠ id) ∧ w' = w) (fun n _ => cs.length - n.toNat) ⟨0, rfl, Nat.zero_le _, fun m x hm => absurd hm (Nat.not_lt_zero _), rfl⟩ ?_
  rintro n w' ⟨i, rfl, hi, hlo, rfl⟩
  unfold f20.L2
  repeat (first | (refine brF rfl ?_) | (refine brT rfl ?_) | (refine NN_r ?_) | (apply LD_r (by assumption); case hi => rfl) | (refine DR_r (by assumption) ?_; intro w hw) | (refine AL_r (by assumption) ?_; intro q w hw) | (apply ST_r (by assumption); (case hi => simp); (case hv => rfl); intro w hw; (try simp only [List.setIfInBounds_toArray, List.set_cons_zero, List.set_cons_succ, Nat.reduceAdd, Nat.zero_add] at hw)) | (refine MD_i (by assumption) ?_; intro w hw) | (apply MU_i (by assumption) <;> (first | assumption | (intro w hw))))
  refine brD (fun hlt => ?_) fun hge => ?_
  · have hlt' : i < cs.length := by omega
    have hx := List.getElem?_eq_getElem hlt'
    repeat (first | (refine brF rfl ?_) | (refine brT rfl ?_) | (refine NN_r ?_) | (apply LD_r (by assumption); case hi => rfl) | (refine DR_r (by assumption) ?_; intro w hw) | (refine AL_r (by assumption) ?_; intro q w hw) | (apply ST_r (by assumption); (case hi => simp); (case hv => rfl); intro w hw; (try simp only [List.setIfInBounds_toArray, List.set_cons_zero, List.set_cons_succ, Nat.reduceAdd, Nat.zero_add] at hw)) | (refine MD_i (by assumption) ?_; intro w hw) | (apply MU_i (by assumption) <;> (first | assumption | (intro w hw))))
    refine IX_enc 48 (i := (i : Int)) encC_len h (by omega) (by rw [Int.toNat_natCast]; exact hx) (by decide) fun b2 sp c2 _ _ h2 hj => ?_
    rw [Addr.add_mk]
    refine LD_get h2.get (hj 0 (by decide)) (brE (fun he => ?_) fun he => ?_)
    · have e : atI id cs = (i : Int) := by
        have : atC id cs = some i := List.findIdx?_eq_some_iff_getElem.2 ⟨hlt', by simpa using he, fun j hj => by
          have := hlo j cs[j] hj (List.getElem?_eq_getElem (by omega)); simpa using this⟩
        simp [atI, this]
      rw [e] at hk; exact hk
    · refine f20.L2_next ⟨i + 1, by rw [w64'] <;> omega, by omega, fun m x hm hy => ?_, rfl⟩ (by rw [w64'] <;> omega)
      by_cases hmi : m < i
      · exact hlo m x hmi hy
      · obtain rfl : m = i := by omega
        rw [hx] at hy; cases hy; exact he
  · have : i = cs.length := by omega
    subst this
    unfold f20.J1
    have e : atI id cs = -1 := by
      have : atC id cs = none := List.findIdx?_eq_none_iff.2 fun x hx => by
        obtain ⟨m, hm, rfl⟩ := List.getElem_of_mem hx
        have := hlo m cs[m] hm (List.getElem?_eq_getElem hm)
        simpa using this
      simp [atI, this]
    rw [e] at hk; exact hk
theorem atI_some {i : Nat} (h : atC id cs = some i) : atI id cs = (i : Int) := by simp [atI, h]
theorem atI_none (h : atC id cs = none) : atI id cs = -1 := by simp [atI, h]
theorem atC_lt {i : Nat} (h : atC id cs = some i) : i < cs.length := (List.findIdx?_eq_some_iff_getElem.1 h).1
def regC (id now : Int) (cs : List Cn) : List Cn := match atC id cs with | some i => cs.set i ⟨id, now, true, false⟩ | none => cs
def lineC (id now : Int) (cs : List Cn) : List Cn := match atC id cs with | some i => if (cs[i]?.map (·.inn)).getD false then cs.set i ⟨id, now, true, false⟩ else cs | none => cs
def leaveC (id : Int) (cs : List Cn) : List Cn := match atC id cs with | some i => cs.eraseIdx i | none => cs
def joinC (id now : Int) (cs : List Cn) : List Cn := leaveC id cs ++ [⟨id, now, false, false⟩]
theorem setC {k : World → Prop} {i : Nat} {y : Cn} {s : Sl} (hi : i < cs.length) (hw : SatL w l) [f : FindO l (Row 4 48) s (encF encC cs) r]
    (hk : ∀ w', SatL w' (own (Row 4 48) s (encF encC (cs.set i y)) :: r) → k w') : IX s (i : Int) 4 (fun a => ST (Addr.add a 0) (.int .i64 y.id) (fun w => ST (Addr.add a 1) (.int .i64 y.t) (fun w => ST (Addr.add a 2) (.bool y.inn) (fun w => ST (Addr.add a 3) (.bool y.asked) (fun w => k w) w) w) w) w) := by
  refine IX_enc 48 (i := (i : Int)) encC_len hw (by omega) (by rw [Int.toNat_natCast]; exact List.getElem?_eq_getElem hi) (by decide) fun b2 sp c2 hs hc h2 hj => ?_
  rw [Int.toNat_natCast]
  show stAll ⟨b2, i * 4, none⟩ k (encC y) 0 w
  have hl := encF_len encC_len cs
  refine stAll_r (encC y) h2 (by rw [List.length_append, hl, encC_len]; omega) (encC_one y) fun w' h3 => hk w' ?_
  rw [Nat.add_zero, encF_set encC_len hi] at h3
  have e : cs.length = (cs.set i y).length := by simp
  rw [hs, e]
  exact Row.of_enc encC_len h3 (by rw [List.length_append, encF_len encC_len, ← e, ← encF_len encC_len cs, ← List.length_append]; exact hc) (by decide)
theorem rreg_c (hw : SatL w l) [f : FindO l RP b (c, cs) r] (hn : cs.length ≤ 100000) (hk : ∀ w', SatL w' (own RP b (c, regC id now cs) :: r) → k (.tuple #[]) w') : CALL Try.prog 12 #[.pointer (some ⟨b, 0, none⟩), .int .i64 id, .int .i64 now] k w := by
  have h0 := hw.find (A := RP) b
  apply f12.call
  unfold f12.b
  refine rat_c h0 hn ⟨_, rfl, ?_⟩
  unfold regC at hk
  cases he : atC id cs with
  | none =>
    rw [he] at hk; rw [atI_none he]
    exact brF (by simp) (hk _ h0)
  | some i =>
    rw [he] at hk; rw [atI_some he]
    obtain ⟨s, h⟩ := RP.out h0
    refine brT (by simp) ?_
    repeat (first | (refine brF rfl ?_) | (refine brT rfl ?_) | (refine NN_r ?_) | (apply LD_r (by assumption); case hi => rfl) | (refine DR_r (by assumption) ?_; intro w hw) | (refine AL_r (by assumption) ?_; intro q w hw) | (apply ST_r (by assumption); (case hi => simp); (case hv => rfl); intro w hw; (try simp only [List.setIfInBounds_toArray, List.set_cons_zero, List.set_cons_succ, Nat.reduceAdd, Nat.zero_add] at hw)) | (refine MD_i (by assumption) ?_; intro w hw) | (apply MU_i (by assumption) <;> (first | assumption | (intro w hw))))
    refine setC (y := ⟨id, now, true, false⟩) (atC_lt he) h fun w' h2 => hk _ (RP.mk h2.swap)
theorem rline_c (hw : SatL w l) [f : FindO l RP b (c, cs) r] (hn : cs.length ≤ 100000) (hk : ∀ w', SatL w' (own RP b (c, lineC id now cs) :: r) → k (.tuple #[]) w') : CALL Try.prog 13 #[.pointer (some ⟨b, 0, none⟩), .int .i64 id, .int .i64 now] k w := by
  have h0 := hw.find (A := RP) b
  apply f13.call
  unfold f13.b
  refine rat_c h0 hn ⟨_, rfl, ?_⟩
  unfold lineC at hk
  cases he : atC id cs with
  | none =>
    rw [he] at hk; rw [atI_none he]
    exact brF (by simp) (hk _ h0)
  | some i =>
    rw [he] at hk; rw [atI_some he]
    obtain ⟨s, h⟩ := RP.out h0
    have hx := List.getElem?_eq_getElem (atC_lt he)
    simp only [hx, Option.map_some, Option.getD_some] at hk
    refine brT (by simp) ?_
    repeat (first | (refine brF rfl ?_) | (refine brT rfl ?_) | (refine NN_r ?_) | (apply LD_r (by assumption); case hi => rfl) | (refine DR_r (by assumption) ?_; intro w hw) | (refine AL_r (by assumption) ?_; intro q w hw) | (apply ST_r (by assumption); (case hi => simp); (case hv => rfl); intro w hw; (try simp only [List.setIfInBounds_toArray, List.set_cons_zero, List.set_cons_succ, Nat.reduceAdd, Nat.zero_add] at hw)) | (refine MD_i (by assumption) ?_; intro w hw) | (apply MU_i (by assumption) <;> (first | assumption | (intro w hw))))
    refine IX_enc 48 (i := (i : Int)) encC_len h (by omega) (by rw [Int.toNat_natCast]; exact hx) (by decide) fun b2 sp c2 _ _ h2 hj => ?_
    rw [Addr.add_mk]
    refine LD_get h2.get (hj 2 (by decide)) (br (fun hb => ?_) fun hb => ?_)
    · rw [if_pos hb] at hk
      repeat (first | (refine brF rfl ?_) | (refine brT rfl ?_) | (refine NN_r ?_) | (apply LD_r (by assumption); case hi => rfl) | (refine DR_r (by assumption) ?_; intro w hw) | (refine AL_r (by assumption) ?_; intro q w hw) | (apply ST_r (by assumption); (case hi => simp); (case hv => rfl); intro w hw; (try simp only [List.setIfInBounds_toArray, List.set_cons_zero, List.set_cons_succ, Nat.reduceAdd, Nat.zero_add] at hw)) | (refine MD_i (by assumption) ?_; intro w hw) | (apply MU_i (by assumption) <;> (first | assumption | (intro w hw))))
      refine setC (y := ⟨id, now, true, false⟩) (atC_lt he) h fun w' h2 => hk _ (RP.mk h2.swap)
    · rw [if_neg (by simp [hb])] at hk
      exact hk _ h0
theorem eraseIdx_td {α : Type} : ∀ (l : List α) (i : Nat), l.eraseIdx i = l.take i ++ l.drop (i + 1)
  | [], i => by simp
  | _ :: _, 0 => by simp
  | x :: xs, i + 1 => by simp [eraseIdx_td xs i]
theorem rleave_c (hw : SatL w l) [f : FindO l RP b (c, cs) r] (hn : cs.length ≤ 100000) (hk : ∀ w', SatL w' (own RP b (c, leaveC id cs) :: r) → k (.tuple #[]) w') : CALL Try.prog 15 #[.pointer (some ⟨b, 0, none⟩), .int .i64 id] k w := by
  have h0 := hw.find (A := RP) b
  apply f15.call
  unfold f15.b
  refine rat_c h0 hn ⟨_, rfl, ?_⟩
  unfold leaveC at hk
  cases he : atC id cs with
  | none =>
    rw [he] at hk; rw [atI_none he]
    exact brF (by simp) (hk _ h0)
  | some i =>
    rw [he] at hk; rw [atI_some he]
    obtain ⟨s, h⟩ := RP.out h0
    have hi := atC_lt he
    have hl := Row.enc_len encC_len (by decide) h.drop
    have hcap := Row.le_cap h.drop
    refine brT (by simp) (DRC_r h fun w1 h1 => NN_r (STL_r (x := s) rfl (RQ_r (by omega) (NN_r (STL_r (x := s) rfl ?_)))))
    rw [show IntKind.wrap .i64 ((i : Int) + 1) = ((i + 1 : Nat) : Int) by rw [w64'] <;> omega]
    refine RQ_r (by omega) (AL_r h1 fun q9 w2 h2 => ⟨h2.drop, ?_⟩)
    rw [Int.toNat_natCast, Int.toNat_natCast]
    have h3 : SatL w2 (own (Row 4 48) (some ⟨q9, 0, none⟩, 0, 0) [] :: own Blk b (.cells #[.int .i64 c.1, .int .i64 c.2.1, .int .i64 c.2.2, slv s] 37 (0, 0)) :: own (Row 4 48) s (encF encC cs) :: r) := Row.mk (cs := []) (sp := []) h2 (by simp) (by simp) (Nat.le_refl _)
    have hc1 := Row.sub_cells (i := 0) (j := i) encC_len (by decide) (h3.sub (l' := own (Row 4 48) s (encF encC cs) :: r)) (Nat.zero_le _) (by omega)
    rw [List.drop_zero, Nat.sub_zero] at hc1
    refine APP_r (zero := [.int .i64 0, .int .i64 0, .bool false, .bool false]) (vs := encF encC (cs.take i)) (sz := 4) (t := 48) (s := (some ⟨q9, 0, none⟩, 0, 0)) h3 rfl hc1 (by rw [encF_len encC_len, slSub_len, List.length_take]; congr 1; omega) (encF_one encC_one _) (by decide) (by rw [slSub_len]; simp only; omega) fun s5 w3 hs5 h4 => ⟨h4.drop, ?_⟩
    rw [List.nil_append] at h4
    have hc2 := Row.sub_cells (i := i + 1) (j := s.2.1) encC_len (by decide) (h4.sub (l' := own (Row 4 48) s (encF encC cs) :: r)) (by omega) (by omega)
    refine APP_r (zero := [.int .i64 0, .int .i64 0, .bool false, .bool false]) (vs := encF encC ((cs.drop (i + 1)).take (s.2.1 - (i + 1)))) (sz := 4) (t := 48) (s := s5) h4 rfl hc2 (by rw [encF_len encC_len, slSub_len, List.length_take, List.length_drop]; congr 1; omega) (encF_one encC_one _) (by decide) (by rw [hs5, slSub_len, slSub_len]; simp only; omega) fun s6 w4 hs6 h5 => NN_r ?_
    refine ST_r h5 (by simp) rfl fun w5 h6 => hk _ ?_
    rw [List.take_of_length_le (l := cs.drop (i + 1)) (i := s.2.1 - (i + 1)) (by rw [List.length_drop]; omega), ← encF_app, ← eraseIdx_td] at h6
    exact RP.mk (c := c) (s := s6) (show SatL w5 (own Blk b (.cells #[.int .i64 c.1, .int .i64 c.2.1, .int .i64 c.2.2, slv s6] 37 (0, 0)) :: own (Row 4 48) s6 (encF encC (cs.eraseIdx i)) :: r) from SatL.sub (show SatL w5 (own Blk b (.cells #[.int .i64 c.1, .int .i64 c.2.1, .int .i64 c.2.2, slv s6] 37 (0, 0)) :: own (Row 4 48) s6 (encF encC (cs.eraseIdx i)) :: own (Row 4 48) s (encF encC cs) :: r) from h6))
theorem rjoin_c (hw : SatL w l) [f : FindO l RP b (c, cs) r] (hn : cs.length ≤ 100000) (hk : ∀ w', SatL w' (own RP b (c, joinC id now cs) :: r) → k (.tuple #[]) w') : CALL Try.prog 18 #[.pointer (some ⟨b, 0, none⟩), .int .i64 id, .int .i64 now] k w := by
  have h0 := hw.find (A := RP) b
  apply f18.call
  unfold f18.b
  refine rleave_c h0 hn fun w1 h1 => ⟨rfl, ?_⟩
  unfold joinC at hk
  obtain ⟨ds, hds⟩ : ∃ ds, ds = leaveC id cs := ⟨_, rfl⟩
  have hdl : ds.length ≤ 100000 := by
    rw [hds]; unfold leaveC; split
    · rw [List.length_eraseIdx]; split <;> omega
    · exact hn
  rw [← hds] at hk h1
  obtain ⟨s, h⟩ := RP.out h1
  have hl := Row.enc_len encC_len (by decide) h.drop
  refine AL_r h fun q9 w2 h2 => NN_r (LD_r h2 (x := s) rfl ?_)
  have h3 : SatL w2 (own (Row 4 48) (some ⟨q9, 0, none⟩, 0, 0) [] :: own Blk b (.cells #[.int .i64 c.1, .int .i64 c.2.1, .int .i64 c.2.2, slv s] 37 (0, 0)) :: own (Row 4 48) s (encF encC ds) :: r) := Row.mk (cs := []) (sp := []) h2 (by simp) (by simp) (Nat.le_refl _)
  have hc1 := Row.cells (h3.sub (l' := own (Row 4 48) s (encF encC ds) :: r)) (Nat.le_refl _)
  rw [List.take_of_length_le (by rw [encF_len encC_len, hl]; omega)] at hc1
  refine APP_r (zero := [.int .i64 0, .int .i64 0, .bool false, .bool false]) (vs := encF encC ds) (sz := 4) (t := 48) (s := (some ⟨q9, 0, none⟩, 0, 0)) h3 rfl hc1 (by rw [encF_len encC_len, hl]) (encF_one encC_one _) (by decide) (by simp only; omega) fun s5 w3 hs5 h4 => AL_r h4 fun q10 w4 h5 => ?_
  rw [List.nil_append] at h5
  have hnew : cellsOfS w4 (some ⟨q10, 0, none⟩, 1, 1) (1 * 4) = some (encC ⟨id, now, false, false⟩) := by
    have h7 : SatL w4 (own (Row 4 48) (some ⟨q10, 0, none⟩, 1, 1) (encC ⟨id, now, false, false⟩) :: _) := Row.mk (cs := encC ⟨id, now, false, false⟩) (sp := []) (by simpa [encC] using h5) (by simp [encC]) (by simp [encC]) (Nat.le_refl _)
    simpa [encC] using Row.cells h7 (m := 1) (Nat.le_refl _)
  refine APP_r (zero := [.int .i64 0, .int .i64 0, .bool false, .bool false]) (vs := encC ⟨id, now, false, false⟩) (sz := 4) (t := 48) (s := s5) h5 rfl hnew rfl (encC_one _) (by decide) (by rw [hs5]; simp only; omega) fun s6 w5 hs6 h6 => NN_r ?_
  refine ST_r h6 (by simp) rfl fun w6 h7 => hk _ ?_
  rw [← encF_one_el (f := encC), ← encF_app] at h7
  simp only [List.setIfInBounds_toArray, List.set_cons_zero, List.set_cons_succ, Nat.reduceAdd, Nat.zero_add] at h7
  exact RP.mk (c := c) (s := s6) (by exact h7.sub)
end
end Go.Proofs.Ytnaeabcaennbjaa
