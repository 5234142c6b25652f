/- The reference's Due. -/
import Derived.Test.YtnaeabcaennbjaaRefP
import Derived.Test.YtnaeabcaennbjaaTab2
set_option linter.unusedVariables false
set_option linter.unusedSimpArgs false
namespace Go.Proofs.Ytnaeabcaennbjaa
open Go
/-- What is due of a connection (c: Ping, Grace, Reg). -/
def whatC (c : Int × Int × Int) (now : Int) (x : Cn) : Int :=
  if x.inn then (if c.1 + c.2.1 ≤ now - x.t then 3 else if c.1 ≤ now - x.t ∧ x.asked = false then 2 else 0) else (if c.2.2 ≤ now - x.t then 1 else 0)
def askC (c : Int × Int × Int) (now : Int) (x : Cn) : Cn := if whatC c now x = 2 then { x with asked := true } else x
def csI (c : Int × Int × Int) (now : Int) (cs : List Cn) (i : Nat) : List Cn := (cs.take i).map (askC c now) ++ cs.drop i
structure OkO (c : Int × Int × Int) (now : Int) (cs : List Cn) (out : List (Int × Int)) : Prop where
  sorted : (out.map (·.1)).Pairwise (· < ·)
  mem : ∀ x v, (x, v) ∈ out ↔ ∃ y ∈ cs, y.id = x ∧ whatC c now y = v ∧ v ≠ 0
theorem csI_get {c : Int × Int × Int} {now : Int} {cs : List Cn} {i : Nat} {x : Cn} (h : cs[i]? = some x) : (csI c now cs i)[i]? = some x := by
  have hi := (List.getElem?_eq_some_iff.1 h).1
  have hl : ((cs.take i).map (askC c now)).length = i := by simp; omega
  unfold csI
  rw [List.getElem?_append_right (by omega), hl, List.getElem?_drop]
  simpa using h
theorem csI_len {c : Int × Int × Int} {now : Int} {cs : List Cn} {i : Nat} (h : i ≤ cs.length) : (csI c now cs i).length = cs.length := by
  simp [csI]; omega
theorem csI_succ {c : Int × Int × Int} {now : Int} {cs : List Cn} {i : Nat} {x : Cn} (h : cs[i]? = some x) : csI c now cs (i + 1) = (csI c now cs i).set i (askC c now x) := by
  obtain ⟨hi, rfl⟩ := List.getElem?_eq_some_iff.1 h
  have hl : ((cs.take i).map (askC c now)).length = i := by simp; omega
  unfold csI
  rw [List.set_append_right _ _ (by omega), hl, Nat.sub_self, List.drop_eq_getElem_cons hi, List.set_cons_zero, take_one (List.getElem?_eq_getElem hi), List.map_append, List.append_assoc]
  rfl
theorem csI_same {c : Int × Int × Int} {now : Int} {cs : List Cn} {i : Nat} {x : Cn} (h : cs[i]? = some x) (hx : whatC c now x ≠ 2) : csI c now cs (i + 1) = csI c now cs i := by
  rw [csI_succ h]
  have : askC c now x = x := by unfold askC; rw [if_neg hx]
  rw [this]
  obtain ⟨hi, he⟩ := List.getElem?_eq_some_iff.1 (csI_get (c := c) (now := now) h)
  conv => lhs; rw [← he]
  simp
theorem OkO.skip {c : Int × Int × Int} {now : Int} {cs : List Cn} {i : Nat} {x : Cn} {out : List (Int × Int)} (ho : OkO c now (cs.take i) out) (h : cs[i]? = some x) (hx : whatC c now x = 0) : OkO c now (cs.take (i + 1)) out := by
  refine ⟨ho.sorted, fun y v => ?_⟩
  rw [ho.mem, take_one h]
  constructor
  · rintro ⟨z, hz, h1, h2, h3⟩; exact ⟨z, List.mem_append_left _ hz, h1, h2, h3⟩
  · rintro ⟨z, hz, h1, h2, h3⟩
    rcases List.mem_append.1 hz with hz | hz
    · exact ⟨z, hz, h1, h2, h3⟩
    · simp at hz; subst hz; omega
theorem OkO.add {c : Int × Int × Int} {now : Int} {cs : List Cn} {i a : Nat} {x : Cn} {out : List (Int × Int)} (ho : OkO c now (cs.take i) out) (hnd : (cs.map (·.id)).Nodup) (h : cs[i]? = some x) (hx : whatC c now x ≠ 0)
    (ha : a ≤ out.length) (hhi : ∀ m y, a ≤ m → out[m]? = some y → x.id < y.1) (hlo : ∀ y, 0 < a → out[a - 1]? = some y → y.1 ≤ x.id) : OkO c now (cs.take (i + 1)) (out.take a ++ (x.id, whatC c now x) :: out.drop a) := by
  have hnew : ∀ v, (x.id, v) ∉ out := by
    intro v hm
    obtain ⟨y, hy, h1, _⟩ := (ho.mem _ _).1 hm
    obtain ⟨j, hj, he⟩ := List.getElem_of_mem hy
    have hi := (List.getElem?_eq_some_iff.1 h)
    obtain ⟨hi, rfl⟩ := hi
    rw [List.length_take] at hj
    rw [List.getElem_take] at he
    have h2 := List.pairwise_iff_getElem.1 hnd j i (by simp; omega) (by simpa using hi) (by omega)
    simp only [List.getElem_map, he] at h2
    exact h2 h1
  refine ⟨?_, fun y v => ?_⟩
  · rw [List.map_append, List.map_cons]
    have hs := ho.sorted
    rw [← List.take_append_drop a out, List.map_append] at hs
    obtain ⟨h1, h2, h3⟩ := List.pairwise_append.1 hs
    have hlow : ∀ y ∈ (out.take a).map (·.1), y < x.id := by
      intro y hy
      obtain ⟨z, hz, rfl⟩ := List.mem_map.1 hy
      obtain ⟨m, hm⟩ := List.getElem?_of_mem hz
      have hma : m < a := by have := (List.getElem?_eq_some_iff.1 hm).1; simp at this; omega
      rw [List.getElem?_take_of_lt hma] at hm
      obtain ⟨u, hu⟩ : ∃ u, out[a - 1]? = some u := ⟨_, List.getElem?_eq_getElem (by omega)⟩
      have h4 := hlo u (by omega) hu
      have h5 : z.1 ≤ u.1 := by
        by_cases he : m = a - 1
        · subst he; rw [hm] at hu; cases hu; exact Int.le_refl _
        · obtain ⟨q1, rfl⟩ := List.getElem?_eq_some_iff.1 hm
          obtain ⟨q2, rfl⟩ := List.getElem?_eq_some_iff.1 hu
          have := List.pairwise_iff_getElem.1 ho.sorted m (a - 1) (by simpa using q1) (by simpa using q2) (by omega)
          simp at this; omega
      have h6 : z.1 ≠ x.id := fun e => hnew z.2 (by rw [← e]; exact List.mem_of_getElem? hm)
      omega
    refine List.pairwise_append.2 ⟨h1, List.pairwise_cons.2 ⟨fun y hy => ?_, h2⟩, fun y hy z hz => ?_⟩
    · obtain ⟨u, hu, rfl⟩ := List.mem_map.1 hy
      obtain ⟨m, hm⟩ := List.getElem?_of_mem hu
      rw [List.getElem?_drop] at hm
      exact hhi _ u (Nat.le_add_right a m) hm
    · rcases List.mem_cons.1 hz with rfl | hz
      · exact hlow y hy
      · exact h3 y hy z hz
  · rw [take_one h]
    have hm : (y, v) ∈ out.take a ++ (x.id, whatC c now x) :: out.drop a ↔ (y, v) ∈ out ∨ (y, v) = (x.id, whatC c now x) := by
      rw [List.mem_append, List.mem_cons]
      conv => rhs; rw [← List.take_append_drop a out, List.mem_append]
      constructor
      · rintro (h | h | h)
        · exact .inl (.inl h)
        · exact .inr h
        · exact .inl (.inr h)
      · rintro ((h | h) | h)
        · exact .inl h
        · exact .inr (.inr h)
        · exact .inr (.inl h)
    rw [hm, ho.mem]
    constructor
    · rintro (⟨z, hz, h1, h2, h3⟩ | h1)
      · exact ⟨z, List.mem_append_left _ hz, h1, h2, h3⟩
      · cases h1; exact ⟨x, by simp, rfl, rfl, hx⟩
    · rintro ⟨z, hz, h1, h2, h3⟩
      rcases List.mem_append.1 hz with hz | hz
      · exact .inl ⟨z, hz, h1, h2, h3⟩
      · simp at hz; subst hz; right; rw [h1, h2]
section
variable {w : World} {l r : List HProp} {k : Value → World → Prop} {b : Nat} {c : Int × Int × Int} {cs : List Cn} {now : Int}
theorem encs_encF (xs : List (Int × Int)) : encs xs = encF encI xs := rfl
theorem encI_len (x : Int × Int) : (encI x).length = 2 := rfl
theorem encI_one (x : Int × Int) : ∀ v ∈ encI x, v.oneCell' = true := by
  intro v hv; simp [encI] at hv; rcases hv with rfl | rfl <;> rfl
theorem rdue_c (hw : SatL w l) [f : FindO l RP b (c, cs) r] (hn : cs.length ≤ 100000) (hnd : (cs.map (·.id)).Nodup) (hc : 1 ≤ c.1 ∧ c.1 ≤ 1000000 ∧ 1 ≤ c.2.1 ∧ c.2.1 ≤ 1000000 ∧ 1 ≤ c.2.2 ∧ c.2.2 ≤ 1000000)
    (ht : 0 ≤ now ∧ now ≤ 1000000000) (hts : ∀ x ∈ cs, 0 ≤ x.t ∧ x.t ≤ now)
    (hk : ∀ s out w', OkO c now cs out → SatL w' (own (Row 2 51) s (encs out) :: own RP b (c, cs.map (askC c now)) :: r) → k (slv s) w') : CALL Try.prog 17 #[.pointer (some ⟨b, 0, none⟩), .int .i64 now] k w := by
  have h0 := hw.find (A := RP) b
  apply f17.call
  unfold f17.b
  refine f17.L2_rule (fun s n w => ∃ (i : Nat) (out : List (Int × Int)), n = i ∧ i ≤ cs.length ∧ out.length ≤ i ∧ OkO c now (cs.take i) out ∧ SatL w (own (Row 2 51) s (encs out) :: own RP b (c, csI c now cs i) :: r)) (fun _ n _ => cs.length - n.toNat)
    ⟨0, [], rfl, Nat.zero_le _, Nat.le_refl _, ⟨by simp, by simp⟩, by simpa [csI, encs] using Row.nil (sz := 2) (t := 51) h0⟩ ?_
  rintro s n w ⟨i, out, rfl, hi, hol, ho, h⟩
  unfold f17.L2
  obtain ⟨s5, h1⟩ := RP.out (h.find (A := RP) b)
  have hl5 := Row.enc_len encC_len (by decide) h1.drop
  rw [csI_len hi] at hl5
  repeat (first | (refine brF rfl ?_) | (refine brT rfl ?_) | (refine NN_r ?_) | (apply LD_r (by assumption); case hi => rfl) | (refine DR_r (by assumption) ?_; intro w hw) | (refine AL_r (by assumption) ?_; intro q w hw) | (apply ST_r (by assumption); (case hi => simp); (case hv => rfl); intro w hw; (try simp only [List.setIfInBounds_toArray, List.set_cons_zero, List.set_cons_succ, Nat.reduceAdd, Nat.zero_add] at hw)) | (refine MD_i (by assumption) ?_; intro w hw) | (apply MU_i (by assumption) <;> (first | assumption | (intro w hw))))
  refine brD (fun hlt => ?_) fun hge => ?_
  · have hlt' : i < cs.length := by omega
    obtain ⟨x, hx⟩ : ∃ x, cs[i]? = some x := ⟨_, List.getElem?_eq_getElem hlt'⟩
    have hxt := hts x (List.mem_of_getElem? hx)
    repeat (first | (refine brF rfl ?_) | (refine brT rfl ?_) | (refine NN_r ?_) | (apply LD_r (by assumption); case hi => rfl) | (refine DR_r (by assumption) ?_; intro w hw) | (refine AL_r (by assumption) ?_; intro q w hw) | (apply ST_r (by assumption); (case hi => simp); (case hv => rfl); intro w hw; (try simp only [List.setIfInBounds_toArray, List.set_cons_zero, List.set_cons_succ, Nat.reduceAdd, Nat.zero_add] at hw)) | (refine MD_i (by assumption) ?_; intro w hw) | (apply MU_i (by assumption) <;> (first | assumption | (intro w hw))))
    refine IX_enc 48 (i := (i : Int)) encC_len h1 (by omega) (by rw [Int.toNat_natCast]; exact csI_get hx) (by decide) fun b2 sp c2 _ _ h2 hj => ?_
    simp only [Addr.add_mk]
    refine LD_get h2.get (hj 0 (by decide)) (LD_get h2.get (hj 1 (by decide)) (LD_get h2.get (hj 2 (by decide)) (LD_get h2.get (hj 3 (by decide)) ?_)))
    clear h2 hj h1
    refine AL_r h fun q w1 hw1 => ?_
    refine ST_r hw1 (by simp) rfl fun w2 hw2 => ST_r hw2 (by simp) rfl fun w3 hw3 => ST_r hw3 (by simp) rfl fun w4 hw4 => ST_r hw4 (by simp) rfl fun w5 hw5 => ?_
    simp only [List.setIfInBounds_toArray, List.set_cons_zero, List.set_cons_succ, Nat.reduceAdd, Nat.zero_add] at hw5
    clear hw1 hw2 hw3 hw4 h
    have e1 : IntKind.wrap .i64 (now - x.t) = now - x.t := w64' (by omega)
    have e2 : IntKind.wrap .i64 (c.1 + c.2.1) = c.1 + c.2.1 := w64' (by omega)
    -- the next round
    have hJ3 : ∀ (w : World) (s : Sl) (out : List (Int × Int)), out.length ≤ i + 1 → OkO c now (cs.take (i + 1)) out → SatL w (own (Row 2 51) s (encs out) :: own RP b (c, csI c now cs (i + 1)) :: r) →
        ∀ {s0 : Sl} , f17.J3 (some ⟨b, 0, none⟩) now s (i : Int) (f17.L2K (some ⟨b, 0, none⟩) now (fun s n w => ∃ (i : Nat) (out : List (Int × Int)), n = i ∧ i ≤ cs.length ∧ out.length ≤ i ∧ OkO c now (cs.take i) out ∧ SatL w (own (Row 2 51) s (encs out) :: own RP b (c, csI c now cs i) :: r)) (fun _ n _ => cs.length - n.toNat) (cs.length - (i : Int).toNat)) k w := by
      intro w s out hol ho h s0
      unfold f17.J3
      refine f17.L2_next ⟨i + 1, out, by rw [w64'] <;> omega, hlt', hol, ho, h⟩ ?_
      rw [w64'] <;> omega
    have hJ7 : ∀ (w : World), whatC c now x ≠ 0 → SatL w (own (Row 2 51) s (encs out) :: own RP b (c, csI c now cs (i + 1)) :: own Blk q (.cells #[.int .i64 x.id, .int .i64 x.t, .bool x.inn, .bool x.asked] 48 (0, 0)) :: r) →
        f17.J7 (some ⟨b, 0, none⟩) now s (i : Int) q (whatC c now x) (f17.L2K (some ⟨b, 0, none⟩) now (fun s n w => ∃ (i : Nat) (out : List (Int × Int)), n = i ∧ i ≤ cs.length ∧ out.length ≤ i ∧ OkO c now (cs.take i) out ∧ SatL w (own (Row 2 51) s (encs out) :: own RP b (c, csI c now cs i) :: r)) (fun _ n _ => cs.length - n.toNat) (cs.length - (i : Int).toNat)) k w := by
      intro w hwx h
      have hls : out.length = s.2.1 := Row.enc_len encI_len (by decide) h
      have hcap : s.2.1 ≤ s.2.2 := Row.le_cap (f := encI) (xs := out) h
      unfold f17.J7
      have hJ8 : ∀ (w : World) (a : Nat), a ≤ out.length → (∀ m y, a ≤ m → out[m]? = some y → x.id < y.1) → (∀ y, 0 < a → out[a - 1]? = some y → y.1 ≤ x.id) →
          SatL w (own (Row 2 51) s (encs out) :: own RP b (c, csI c now cs (i + 1)) :: own Blk q (.cells #[.int .i64 x.id, .int .i64 x.t, .bool x.inn, .bool x.asked] 48 (0, 0)) :: r) →
          f17.J8 (some ⟨b, 0, none⟩) now s (i : Int) q (whatC c now x) (a : Int) (f17.L2K (some ⟨b, 0, none⟩) now (fun s n w => ∃ (i : Nat) (out : List (Int × Int)), n = i ∧ i ≤ cs.length ∧ out.length ≤ i ∧ OkO c now (cs.take i) out ∧ SatL w (own (Row 2 51) s (encs out) :: own RP b (c, csI c now cs i) :: r)) (fun _ n _ => cs.length - n.toNat) (cs.length - (i : Int).toNat)) k w := by
        intro w a ha hhi hlo h
        unfold f17.J8
        rw [Int.toNat_natCast]
        refine RQ_r (by omega) ?_
        have h3 : SatL w (own (Row 2 51) (none, 0, 0) [] :: own (Row 2 51) s (encF encI out) :: own RP b (c, csI c now cs (i + 1)) :: own Blk q (.cells #[.int .i64 x.id, .int .i64 x.t, .bool x.inn, .bool x.asked] 48 (0, 0)) :: r) := Row.nil h
        have hc1 := Row.sub_cells (i := 0) (j := a) encI_len (by decide) (h3.sub (l' := own (Row 2 51) s (encF encI out) :: r)) (Nat.zero_le _) (by omega)
        rw [List.drop_zero, Nat.sub_zero] at hc1
        refine APP_r (zero := [.int .i64 0, .int .i64 0]) (vs := encF encI (out.take a)) (sz := 2) (t := 51) (s := (none, 0, 0)) h3 rfl hc1 (by rw [encF_len encI_len, slSub_len, List.length_take]; congr 1; omega) (encF_one encI_one _) (by decide) (by rw [slSub_len]; simp only; omega) fun s6 w1 hs6 h4 => ?_
        rw [List.nil_append] at h4
        refine LD_r h4 (x := x.id) rfl (AL_r h4 fun q2 w2 h5 => ?_)
        have hnew : cellsOfS w2 (some ⟨q2, 0, none⟩, 1, 1) (1 * 2) = some (encI (x.id, whatC c now x)) := by
          have h7 : SatL w2 (own (Row 2 51) (some ⟨q2, 0, none⟩, 1, 1) (encI (x.id, whatC c now x)) :: _) := Row.mk (cs := encI (x.id, whatC c now x)) (sp := []) (by simpa [encI] using h5) (by simp [encI]) (by simp [encI]) (Nat.le_refl _)
          simpa [encI] using Row.cells h7 (m := 1) (Nat.le_refl _)
        refine APP_r (zero := [.int .i64 0, .int .i64 0]) (vs := encI (x.id, whatC c now x)) (sz := 2) (t := 51) (s := s6) h5 rfl hnew rfl (encI_one _) (by decide) (by rw [hs6, slSub_len]; simp only; omega) fun s7 w3 hs7 h6 => ?_
        refine RQ_r (by omega) ?_
        have hc2 := Row.sub_cells (i := a) (j := s.2.1) encI_len (by decide) (h6.sub (l' := own (Row 2 51) s (encF encI out) :: r)) (by omega) (by omega)
        refine APP_r (zero := [.int .i64 0, .int .i64 0]) (vs := encF encI ((out.drop a).take (s.2.1 - a))) (sz := 2) (t := 51) (s := s7) h6 rfl hc2 (by rw [encF_len encI_len, slSub_len, List.length_take, List.length_drop]; congr 1; omega) (encF_one encI_one _) (by decide) (by rw [hs7, hs6, slSub_len, slSub_len]; simp only; omega) fun s8 w4 hs8 h7 => ?_
        rw [List.take_of_length_le (l := out.drop a) (i := s.2.1 - a) (by rw [List.length_drop]; omega), ← encF_one_el (f := encI), ← encF_app, ← encF_app] at h7
        have e : out.take a ++ [(x.id, whatC c now x)] ++ out.drop a = out.take a ++ (x.id, whatC c now x) :: out.drop a := by simp
        rw [e] at h7
        exact hJ3 w4 s8 _ (by simp; omega) (ho.add hnd hx hwx ha hhi hlo) (h7.sub (l' := own (Row 2 51) s8 (encF encI (out.take a ++ (x.id, whatC c now x) :: out.drop a)) :: own RP b (c, csI c now cs (i + 1)) :: r)) (s0 := s)
      have hall : ∀ m y, out.length ≤ m → out[m]? = some y → x.id < y.1 := fun m y hm hy => by rw [List.getElem?_eq_none hm] at hy; cases hy
      rw [← hls]
      refine f17.L9_rule (fun n w => ∃ a : Nat, n = a ∧ a ≤ out.length ∧ (∀ m y, a ≤ m → out[m]? = some y → x.id < y.1) ∧
        SatL w (own (Row 2 51) s (encs out) :: own RP b (c, csI c now cs (i + 1)) :: own Blk q (.cells #[.int .i64 x.id, .int .i64 x.t, .bool x.inn, .bool x.asked] 48 (0, 0)) :: r)) (fun n _ => n.toNat) ⟨out.length, rfl, Nat.le_refl _, hall, h⟩ ?_
      rintro n w ⟨a, rfl, ha, hhi, h⟩
      unfold f17.L9
      refine DR_r h fun w h => brD (fun hpos => ?_) fun hz => ?_
      · rw [show IntKind.wrap .i64 ((a : Int) - 1) = ((a - 1 : Nat) : Int) by rw [w64'] <;> omega]
        obtain ⟨y, hy⟩ : ∃ y, out[a - 1]? = some y := ⟨_, List.getElem?_eq_getElem (by omega)⟩
        refine IX_items (t := 51) (xs := out) h (by omega) (by rw [Int.toNat_natCast]; exact hy) fun b2 cs' hb hc0 hc1 => ?_
        simp only [Addr.add_mk, Nat.add_zero]
        refine LD_get hb hc0 (LD_r h (x := x.id) rfl (brD (fun hlt => ?_) fun hge => ?_))
        · refine f17.L9_next ⟨a - 1, rfl, by omega, fun m z hm hz => ?_, h⟩ (by omega)
          by_cases hma : a ≤ m
          · exact hhi m z hma hz
          · obtain rfl : m = a - 1 := by omega
            rw [hy] at hz; cases hz; exact hlt
        · exact hJ8 w a ha hhi (fun z _ hz => by rw [hy] at hz; cases hz; omega) h
      · exact hJ8 w a ha hhi (fun z hp => by omega) h
    have hJ6 : ∀ (w : World), SatL w (own (Row 2 51) s (encs out) :: own RP b (c, csI c now cs i) :: own Blk q (.cells #[.int .i64 x.id, .int .i64 x.t, .bool x.inn, .bool x.asked] 48 (0, 0)) :: r) →
        f17.J6 (some ⟨b, 0, none⟩) now s (i : Int) q (whatC c now x) (f17.L2K (some ⟨b, 0, none⟩) now (fun s n w => ∃ (i : Nat) (out : List (Int × Int)), n = i ∧ i ≤ cs.length ∧ out.length ≤ i ∧ OkO c now (cs.take i) out ∧ SatL w (own (Row 2 51) s (encs out) :: own RP b (c, csI c now cs i) :: r)) (fun _ n _ => cs.length - n.toNat) (cs.length - (i : Int).toNat)) k w := by
      intro w h
      unfold f17.J6
      refine brE (fun hz => ?_) fun hnz => brE (fun h2 => ?_) fun hn2 => ?_
      · exact hJ3 w s out (by omega) (ho.skip hx hz) (by rw [csI_same hx (by omega)]; exact h.sub) (s0 := s)
      · obtain ⟨s5, h1⟩ := RP.out (h.find (A := RP) b)
        refine NN_r (LD_r h1 (x := s5) rfl ?_)
        refine IX_enc 48 (i := (i : Int)) encC_len h1 (by omega) (by rw [Int.toNat_natCast]; exact csI_get hx) (by decide) fun b2 sp c2 hs5 hcl h3 hj => ?_
        rw [Int.toNat_natCast]
        simp only [Addr.add_mk, Nat.add_zero]
        refine ST_r h3 (by rw [List.size_toArray, List.length_append, encF_len encC_len, csI_len hi]; omega) rfl fun w2 h4 => hJ7 w2 hnz ?_
        have e : (encF encC (csI c now cs i) ++ sp).toArray.setIfInBounds (i * 4 + 3) (Value.bool true) = (encF encC (csI c now cs (i + 1)) ++ sp).toArray := by
          rw [csI_succ hx, ← encF_set encC_len (by rw [csI_len hi]; exact hlt') sp, List.setIfInBounds_toArray]
          congr 1
          have hlen : (encF encC (csI c now cs i) ++ sp).length = c2 * 4 := hcl
          have hle : i * 4 + 4 ≤ (encF encC (csI c now cs i) ++ sp).length := by rw [List.length_append, encF_len encC_len, csI_len hi]; omega
          obtain ⟨L, hL⟩ : ∃ L, L = encF encC (csI c now cs i) ++ sp := ⟨_, rfl⟩
          have hg : ∀ j, j < 4 → L[i * 4 + j]? = (encC x)[j]? := by
            intro j hj4
            have := hj j hj4
            rw [Int.toNat_natCast, List.getElem?_toArray] at this
            rw [hL]; exact this
          rw [← hL] at hle ⊢
          have ha : askC c now x = { x with asked := true } := by unfold askC; rw [if_pos h2]
          rw [ha]
          apply List.ext_getElem?
          intro m
          have g0 := hg 0 (by decide); have g1 := hg 1 (by decide); have g2 := hg 2 (by decide)
          simp only [encC, List.getElem?_cons_zero, List.getElem?_cons_succ, Nat.add_zero] at g0 g1 g2
          unfold over
          by_cases hm : m < i * 4
          · rw [List.getElem?_set_ne (by omega), List.append_assoc, List.getElem?_append_left (by simp; omega), List.getElem?_take_of_lt hm]
          · have hlt4 : (L.take (i * 4)).length = i * 4 := by simp; omega
            rw [List.append_assoc, List.getElem?_append_right (by omega), hlt4]
            by_cases hm2 : m < i * 4 + 4
            · rw [List.getElem?_append_left (by simp [encC]; omega)]
              have : m = i * 4 ∨ m = i * 4 + 1 ∨ m = i * 4 + 2 ∨ m = i * 4 + 3 := by omega
              rcases this with rfl | rfl | rfl | rfl
              · rw [List.getElem?_set_ne (by omega), g0]; simp [encC]
              · rw [List.getElem?_set_ne (by omega), g1, show i * 4 + 1 - i * 4 = 1 by omega]; simp [encC]
              · rw [List.getElem?_set_ne (by omega), g2, show i * 4 + 2 - i * 4 = 2 by omega]; simp [encC]
              · rw [List.getElem?_set_self (by omega), show i * 4 + 3 - i * 4 = 3 by omega]; simp [encC]
            · rw [List.getElem?_set_ne (by omega), List.getElem?_append_right (by simp [encC]; omega), List.getElem?_drop]
              congr 1; simp [encC]; omega
        rw [e] at h4
        have hcl' : (encF encC (csI c now cs (i + 1)) ++ sp).length = c2 * 4 := by
          rw [← hcl, List.length_append, List.length_append, encF_len encC_len, encF_len encC_len, csI_len hi, csI_len hlt']
        have h5 := Row.of_enc encC_len h4 hcl' (by decide)
        rw [csI_len hlt', ← csI_len (c := c) (now := now) hi, ← hs5] at h5
        exact (RP.mk (b := b) (c := c) (cs := csI c now cs (i + 1)) (s := s5) (by exact h5.sub) : SatL w2 (own RP b (c, csI c now cs (i + 1)) :: own (Row 2 51) s (encs out) :: own Blk q (.cells #[.int .i64 x.id, .int .i64 x.t, .bool x.inn, .bool x.asked] 48 (0, 0)) :: r)).sub
      · exact hJ7 w hnz (by rw [csI_same hx hn2]; exact h)
    have hw6 : SatL w5 (own (Row 2 51) s (encs out) :: own RP b (c, csI c now cs i) :: own Blk q (.cells #[.int .i64 x.id, .int .i64 x.t, .bool x.inn, .bool x.asked] 48 (0, 0)) :: r) := hw5.sub
    clear hw5
    have hfin : ∀ (w : World) (n : Int), n = whatC c now x → SatL w (own (Row 2 51) s (encs out) :: own RP b (c, csI c now cs i) :: own Blk q (.cells #[.int .i64 x.id, .int .i64 x.t, .bool x.inn, .bool x.asked] 48 (0, 0)) :: r) →
        f17.J6 (some ⟨b, 0, none⟩) now s (i : Int) q n (f17.L2K (some ⟨b, 0, none⟩) now (fun s n w => ∃ (i : Nat) (out : List (Int × Int)), n = i ∧ i ≤ cs.length ∧ out.length ≤ i ∧ OkO c now (cs.take i) out ∧ SatL w (own (Row 2 51) s (encs out) :: own RP b (c, csI c now cs i) :: r)) (fun _ n _ => cs.length - n.toNat) (cs.length - (i : Int).toNat)) k w := by
      rintro w n rfl h; exact hJ6 w h
    have hJ5 : ∀ (w : World) (n : Int), (if x.inn then (if c.1 + c.2.1 ≤ now - x.t then 3 else n) else n) = whatC c now x → SatL w (own (Row 2 51) s (encs out) :: own RP b (c, csI c now cs i) :: own Blk q (.cells #[.int .i64 x.id, .int .i64 x.t, .bool x.inn, .bool x.asked] 48 (0, 0)) :: r) →
        f17.J5 (some ⟨b, 0, none⟩) now s (i : Int) q n (f17.L2K (some ⟨b, 0, none⟩) now (fun s n w => ∃ (i : Nat) (out : List (Int × Int)), n = i ∧ i ≤ cs.length ∧ out.length ≤ i ∧ OkO c now (cs.take i) out ∧ SatL w (own (Row 2 51) s (encs out) :: own RP b (c, csI c now cs i) :: r)) (fun _ n _ => cs.length - n.toNat) (cs.length - (i : Int).toNat)) k w := by
      intro w n hv h
      unfold f17.J5
      refine DR_r h fun w h => LD_r h (x := x.inn) rfl (br (fun hi => ?_) fun hi => ?_)
      · obtain ⟨s9, h9⟩ := RP.out (h.find (A := RP) b)
        refine LD_r h (x := x.t) rfl (NN_r (LD_r h9 (x := c.1) rfl (NN_r (LD_r h9 (x := c.2.1) rfl ?_))))
        rw [e1, e2]
        rw [if_pos hi] at hv
        refine brD (fun hd => hfin w 3 ?_ h) fun hd => hfin w n ?_ h
        · rw [if_pos hd] at hv; exact hv
        · rw [if_neg hd] at hv; exact hv
      · rw [if_neg (by simp [hi])] at hv
        exact hfin w n hv h
    have hJ4 : ∀ (w : World) (n : Int), (if x.inn then (if c.1 + c.2.1 ≤ now - x.t then 3 else if c.1 ≤ now - x.t ∧ x.asked = false then 2 else n) else n) = whatC c now x → SatL w (own (Row 2 51) s (encs out) :: own RP b (c, csI c now cs i) :: own Blk q (.cells #[.int .i64 x.id, .int .i64 x.t, .bool x.inn, .bool x.asked] 48 (0, 0)) :: r) →
        f17.J4 (some ⟨b, 0, none⟩) now s (i : Int) q n (f17.L2K (some ⟨b, 0, none⟩) now (fun s n w => ∃ (i : Nat) (out : List (Int × Int)), n = i ∧ i ≤ cs.length ∧ out.length ≤ i ∧ OkO c now (cs.take i) out ∧ SatL w (own (Row 2 51) s (encs out) :: own RP b (c, csI c now cs i) :: r)) (fun _ n _ => cs.length - n.toNat) (cs.length - (i : Int).toNat)) k w := by
      intro w n hv h
      unfold f17.J4
      refine DR_r h fun w h => LD_r h (x := x.inn) rfl (br (fun hi => ?_) fun hi => ?_)
      · obtain ⟨s9, h9⟩ := RP.out (h.find (A := RP) b)
        refine LD_r h (x := x.t) rfl (NN_r (LD_r h9 (x := c.1) rfl ?_))
        rw [e1]
        rw [if_pos hi] at hv
        refine brD (fun hd => LD_r h (x := x.asked) rfl (brN (br (fun ha => ?_) fun ha => ?_))) fun hd => ?_
        · refine hJ5 w n ?_ h
          rw [if_pos hi]; rw [if_neg (c := c.1 ≤ now - x.t ∧ x.asked = false) (by simp [ha])] at hv; exact hv
        · refine hJ5 w 2 ?_ h
          rw [if_pos hi]; rw [if_pos (c := c.1 ≤ now - x.t ∧ x.asked = false) ⟨hd, ha⟩] at hv; exact hv
        · refine hJ5 w n ?_ h
          rw [if_pos hi]; rw [if_neg (c := c.1 ≤ now - x.t ∧ x.asked = false) (fun h => hd h.1)] at hv; exact hv
      · rw [if_neg (by simp [hi])] at hv
        refine hJ5 w n ?_ h
        rw [if_neg (by simp [hi])]; exact hv
    refine DR_r hw6 fun w h => LD_r h (x := x.inn) rfl (brN (br (fun hi => ?_) fun hi => ?_))
    · exact hJ4 w 0 (by unfold whatC; rw [if_pos hi, if_pos hi]) h
    · obtain ⟨s9, h9⟩ := RP.out (h.find (A := RP) b)
      refine LD_r h (x := x.t) rfl (NN_r (LD_r h9 (x := c.2.2) rfl ?_))
      rw [e1]
      refine brD (fun hd => hJ4 w 1 ?_ h) fun hd => hJ4 w 0 ?_ h
      · unfold whatC; simp [hi, hd]
      · unfold whatC; simp [hi, hd]
  · have : i = cs.length := by omega
    subst this
    unfold f17.J1
    rw [List.take_length] at ho
    have e : csI c now cs cs.length = cs.map (askC c now) := by simp [csI]
    rw [e] at h
    exact hk s out w ho h
end
end Go.Proofs.Ytnaeabcaennbjaa
