/- The package set, at numbers. -/
import Derived.Test.YtlefdgplobifiaaGreatDoorSrch
import Derived.Test.YtlefdgplobifiaaGreatDoorInsI
import Derived.Test.YtlefdgplobifiaaGreatDoorDelI
import Derived.Test.YtlefdgplobifiaaGreatDoorGA
set_option linter.unusedVariables false
set_option linter.unusedSimpArgs false
namespace Go.Proofs.YtlefdgplobifiaaGreatDoor
open Go
def sAdd (x : Int) (xs : List Int) : List Int := if x ∈ xs then xs else xs.filter (· < x) ++ [x] ++ xs.filter (x < ·)
def sRem (x : Int) (xs : List Int) : List Int := xs.filter (· ≠ x)
/-- Where a number stands in a rising row, or would. -/
theorem cut_at {xs : List Int} {x : Int} {i : Nat} (hs : xs.Pairwise (· < ·)) (hi : i ≤ xs.length) (h1 : ∀ (m : Nat) y, m < i → xs[m]? = some y → y < x) (h2 : ∀ (m : Nat) y, i ≤ m → xs[m]? = some y → ¬ y < x) :
    xs.take i = xs.filter (· < x) ∧ xs.drop i = xs.filter (fun y => ¬ y < x) := by
  have ha : ∀ y ∈ xs.take i, y < x := fun y hy => by
    obtain ⟨m, hm⟩ := List.mem_iff_getElem?.1 hy
    have hlt : m < i := by
      have := (List.getElem?_eq_some_iff.1 hm).1
      rw [List.length_take] at this; omega
    rw [List.getElem?_take, if_pos hlt] at hm
    exact h1 m y hlt hm
  have hb : ∀ y ∈ xs.drop i, ¬ y < x := fun y hy => by
    obtain ⟨m, hm⟩ := List.mem_iff_getElem?.1 hy
    rw [List.getElem?_drop] at hm
    exact h2 (i + m) y (by omega) hm
  have e := List.take_append_drop i xs
  have f1 : xs.filter (· < x) = (xs.take i).filter (· < x) ++ (xs.drop i).filter (· < x) := by rw [← List.filter_append, e]
  have f2 : xs.filter (fun y => ¬ y < x) = (xs.take i).filter (fun y => ¬ y < x) ++ (xs.drop i).filter (fun y => ¬ y < x) := by rw [← List.filter_append, e]
  rw [f1, f2]
  rw [List.filter_eq_self.2 (fun y hy => by simpa using ha y hy), List.filter_eq_nil_iff.2 (fun y hy => by simpa using hb y hy), List.filter_eq_nil_iff.2 (fun y hy => by simpa using ha y hy), List.filter_eq_self.2 (fun y hy => by simpa using hb y hy)]
  simp
theorem mem_at {xs : List Int} {x : Int} {i : Nat} (h1 : ∀ (m : Nat) y, m < i → xs[m]? = some y → y < x) (hs : xs.Pairwise (· < ·)) (h2 : ∀ (m : Nat) y, i ≤ m → xs[m]? = some y → ¬ y < x) : xs[i]? = some x ↔ x ∈ xs := by
  constructor
  · exact List.mem_of_getElem?
  · intro h
    obtain ⟨m, hm⟩ := List.mem_iff_getElem?.1 h
    have : i ≤ m := by
      rcases Nat.lt_or_ge m i with h' | h'
      · have := h1 m x h' hm; omega
      · exact h'
    by_cases he : m = i
    · rwa [he] at hm
    · have hlt : i < xs.length := by have := (List.getElem?_eq_some_iff.1 hm).1; omega
      have h3 := h2 i xs[i] (Nat.le_refl _) (List.getElem?_eq_getElem hlt)
      have := pw_get hs (show i < m by omega) (List.getElem?_eq_getElem hlt) hm
      omega
theorem sAdd_sorted {x : Int} {xs : List Int} (hs : xs.Pairwise (· < ·)) : (sAdd x xs).Pairwise (· < ·) := by
  unfold sAdd
  split
  · exact hs
  · rw [List.append_assoc, List.pairwise_append]
    refine ⟨hs.filter _, ?_, ?_⟩
    · rw [List.singleton_append, List.pairwise_cons]
      exact ⟨fun y hy => by simpa using (List.mem_filter.1 hy).2, hs.filter _⟩
    · intro y hy z hz
      have h1 := (List.mem_filter.1 hy).2
      simp only [decide_eq_true_eq] at h1
      rw [List.singleton_append, List.mem_cons] at hz
      rcases hz with rfl | hz
      · exact h1
      · have h2 := (List.mem_filter.1 hz).2
        simp only [decide_eq_true_eq] at h2
        omega
theorem sRem_sorted {x : Int} {xs : List Int} (hs : xs.Pairwise (· < ·)) : (sRem x xs).Pairwise (· < ·) := hs.filter _
theorem sAdd_len (x : Int) (xs : List Int) : (sAdd x xs).length ≤ xs.length + 1 := by
  unfold sAdd
  split
  · omega
  · have h : ∀ l : List Int, x ∉ l → (l.filter (· < x)).length + (l.filter (x < ·)).length ≤ l.length := by
      intro l hl
      induction l with
      | nil => simp
      | cons y l ih =>
        have := ih (by simp at hl; exact hl.2)
        simp only [List.filter_cons, List.length_cons]
        by_cases h1 : y < x
        · simp only [h1, decide_true, if_true, List.length_cons, show ¬ x < y by omega, decide_false, Bool.false_eq_true, if_false]; omega
        · simp only [h1, decide_false, Bool.false_eq_true, if_false]
          by_cases h2 : x < y
          · simp only [h2, decide_true, if_true, List.length_cons]; omega
          · simp only [h2, decide_false, Bool.false_eq_true, if_false]; omega
    rename_i hx
    have := h xs hx
    simp only [List.length_append, List.length_singleton]; omega
theorem sRem_len (x : Int) (xs : List Int) : (sRem x xs).length ≤ xs.length := List.length_filter_le _ _
theorem mem_sAdd {x y : Int} {xs : List Int} : y ∈ sAdd x xs ↔ y = x ∨ y ∈ xs := by
  unfold sAdd
  split
  · rename_i h
    constructor
    · exact .inr
    · rintro (rfl | h')
      · exact h
      · exact h'
  · rename_i h
    simp only [List.mem_append, List.mem_filter, decide_eq_true_eq, List.mem_singleton]
    constructor
    · rintro ((⟨h, _⟩ | h) | ⟨h, _⟩)
      · exact .inr h
      · exact .inl h
      · exact .inr h
    · rintro (rfl | h')
      · exact .inl (.inr rfl)
      · rcases Int.lt_trichotomy y x with h1 | h1 | h1
        · exact .inl (.inl ⟨h', h1⟩)
        · exact .inl (.inr h1)
        · exact .inr ⟨h', h1⟩
theorem mem_sRem {x y : Int} {xs : List Int} : y ∈ sRem x xs ↔ y ∈ xs ∧ y ≠ x := by simp [sRem]
/-- A set of numbers. -/
def SetC (b : Nat) (xs : List Int) : HProp := fun h => ∃ s, xs.Pairwise (· < ·) ∧ sepL [own Blk b (.cells #[slv s] 94 (0, 0)), own (Row 1 3) s (encF encZ xs)] h
section
variable {w : World} {l r r1 r2 : List HProp} {k : Value → World → Prop} {b : Nat} {xs ys : List Int} {a : Sl}
theorem SetC.out (h : SatL w (own SetC b xs :: r)) : ∃ s, xs.Pairwise (· < ·) ∧ SatL w (own Blk b (.cells #[slv s] 94 (0, 0)) :: own (Row 1 3) s (encF encZ xs) :: r) := by
  obtain ⟨x, y, h1, h2, ⟨s, hs, h3⟩, h4⟩ := h
  exact ⟨s, hs, sepL_append.2 ⟨x, y, h1, h2, h3, h4⟩⟩
theorem SetC.mk {s : Sl} (h : SatL w (own Blk b (.cells #[slv s] 94 (0, 0)) :: own (Row 1 3) s (encF encZ xs) :: r)) (hs : xs.Pairwise (· < ·)) : SatL w (own SetC b xs :: r) :=
  SatL.shut (L := [_, _]) h fun x hx => ⟨s, hs, hx⟩
theorem sadd_c (hw : SatL w l) [f : FindO l SetC b xs r1] [g : FindO r1 (Row 1 3) a (encF encZ ys) r] (hn : xs.length + ys.length ≤ 10000000)
    (hk : ∀ n w', SatL w' (own SetC b (ys.foldl (fun s y => sAdd y s) xs) :: own (Row 1 3) a (encF encZ ys) :: r) → k (.int .i64 n) w') : CALL Tryz.prog 55 #[.pointer (some ⟨b, 0, none⟩), slv a] k w := by
  have h0 : SatL w (own SetC b xs :: own (Row 1 3) a (encF encZ ys) :: r) := (hw.find (A := SetC) b).perm (g.perm.cons _)
  have hl := Row.enc_len encZ_len (by omega) h0.drop
  apply f55.call
  unfold f55.b
  refine brF rfl ?_
  rw [← hl]
  refine f55.L2_rule (fun n i w => ∃ j : Nat, i = j ∧ j ≤ ys.length ∧ ((ys.take j).foldl (fun s y => sAdd y s) xs).length ≤ xs.length + j ∧ SatL w (own SetC b ((ys.take j).foldl (fun s y => sAdd y s) xs) :: own (Row 1 3) a (encF encZ ys) :: r)) (fun _ i _ => (ys.length - i).toNat) ⟨0, rfl, by omega, by simp, by simpa using h0⟩ ?_
  rintro n i w ⟨j, rfl, hj, hln, h⟩
  unfold f55.L2
  obtain ⟨cur, hcur⟩ : ∃ cur, cur = (ys.take j).foldl (fun s y => sAdd y s) xs := ⟨_, rfl⟩
  rw [← hcur] at h hln
  refine brD (fun h1 => ?_) fun h1 => ?_
  · have h1 : j < ys.length := by omega
    have hy : ys[((j : Nat) : Int).toNat]? = some ys[j] := by simp [h1]
    have hnext : (ys.take (j + 1)).foldl (fun s y => sAdd y s) xs = sAdd ys[j] cur := by
      rw [take_one (l := ys) (i := j) (x := ys[j]) (by simp [h1]), List.foldl_append, hcur]; rfl
    have hlen := sAdd_len ys[j] cur
    have e1 : IntKind.wrap .i64 ((j : Int) + 1) = ((j + 1 : Nat) : Int) := by rw [w64'] <;> omega
    refine IX_Z h (by omega) hy ?_
    obtain ⟨s, hs, h⟩ := SetC.out h
    refine NN_r (LD_r h (x := s) rfl (binI_c h (by omega) hs fun i hi hlo hhi => ⟨_, _, rfl, ?_⟩))
    have hmem := mem_at hlo hs hhi
    obtain ⟨ht, hd⟩ := cut_at hs hi hlo hhi
    refine brN (brD (fun hm => ?_) fun hm => ?_)
    · unfold f55.J3
      rw [e1]
      refine f55.L2_next ⟨j + 1, rfl, by omega, ?_, ?_⟩ (by omega)
      · rw [hnext]; omega
      · rw [hnext, sAdd, if_pos (hmem.1 hm)]
        exact SetC.mk h hs
    · refine NN_r (LD_r h (x := s) rfl (AL_r h fun q w h => ?_))
      have hls := Row.enc_len (xs := cur) encZ_len (by omega) h.drop.drop
      refine insI_c (X := [.int .i64 ys[j]]) rfl (by intro v hv; simp at hv; subst hv; rfl) (s := s) h (by omega) (by omega) (encZ_one _) fun s' w hs' h => ⟨_, rfl, NN_r ?_⟩
      simp only [Addr.add_mk]
      refine ST_r (b := b) h (by simp) rfl fun w h => ?_
      unfold f55.J3
      rw [e1]
      refine f55.L2_next ⟨j + 1, rfl, by omega, ?_, ?_⟩ (by omega)
      · rw [hnext]; omega
      · have hso := sAdd_sorted (x := ys[j]) hs
        rw [hnext]
        refine SetC.mk (s := s') ?_ hso
        rw [show [Value.int .i64 ys[j]] = encZ ys[j] from rfl, encF_ins encZ_len] at h
        have e : cur.take i ++ [ys[j]] ++ cur.drop i = sAdd ys[j] cur := by
          have hnm : ys[j] ∉ cur := fun hx => hm (hmem.2 hx)
          rw [sAdd, if_neg hnm, ht, hd]
          congr 1
          apply List.filter_congr
          intro y hy
          have : y ≠ ys[j] := fun e => hnm (e ▸ hy)
          simp; omega
        rw [e] at h
        exact SatL.sub (by simpa using h)
  · have e : j = ys.length := by omega
    subst e
    unfold f55.J1
    rw [hcur, List.take_length] at h
    exact hk n _ h
theorem srem_c (hw : SatL w l) [f : FindO l SetC b xs r1] [g : FindO r1 (Row 1 3) a (encF encZ ys) r] (hn : xs.length ≤ 10000000) (hny : ys.length ≤ 10000000)
    (hk : ∀ n w', SatL w' (own SetC b (ys.foldl (fun s y => sRem y s) xs) :: own (Row 1 3) a (encF encZ ys) :: r) → k (.int .i64 n) w') : CALL Tryz.prog 53 #[.pointer (some ⟨b, 0, none⟩), slv a] k w := by
  have h0 : SatL w (own SetC b xs :: own (Row 1 3) a (encF encZ ys) :: r) := (hw.find (A := SetC) b).perm (g.perm.cons _)
  have hl := Row.enc_len encZ_len (by omega) h0.drop
  apply f53.call
  unfold f53.b
  refine brF rfl ?_
  rw [← hl]
  refine f53.L2_rule (fun n i w => ∃ j : Nat, i = j ∧ j ≤ ys.length ∧ ((ys.take j).foldl (fun s y => sRem y s) xs).length ≤ xs.length ∧ SatL w (own SetC b ((ys.take j).foldl (fun s y => sRem y s) xs) :: own (Row 1 3) a (encF encZ ys) :: r)) (fun _ i _ => (ys.length - i).toNat) ⟨0, rfl, by omega, by simp, by simpa using h0⟩ ?_
  rintro n i w ⟨j, rfl, hj, hln, h⟩
  unfold f53.L2
  obtain ⟨cur, hcur⟩ : ∃ cur, cur = (ys.take j).foldl (fun s y => sRem y s) xs := ⟨_, rfl⟩
  rw [← hcur] at h hln
  refine brD (fun h1 => ?_) fun h1 => ?_
  · have h1 : j < ys.length := by omega
    have hy : ys[((j : Nat) : Int).toNat]? = some ys[j] := by simp [h1]
    have hnext : (ys.take (j + 1)).foldl (fun s y => sRem y s) xs = sRem ys[j] cur := by
      rw [take_one (l := ys) (i := j) (x := ys[j]) (by simp [h1]), List.foldl_append, hcur]; rfl
    have hlen := sRem_len ys[j] cur
    have e1 : IntKind.wrap .i64 ((j : Int) + 1) = ((j + 1 : Nat) : Int) := by rw [w64'] <;> omega
    refine IX_Z h (by omega) hy ?_
    obtain ⟨s, hs, h⟩ := SetC.out h
    refine NN_r (LD_r h (x := s) rfl (binI_c h (by omega) hs fun i hi hlo hhi => ⟨_, _, rfl, ?_⟩))
    have hmem := mem_at hlo hs hhi
    obtain ⟨ht, hd⟩ := cut_at hs hi hlo hhi
    refine brD (fun hm => ?_) fun hm => ?_
    · have hlt : i < cur.length := (List.getElem?_eq_some_iff.1 hm).1
      have hls := Row.enc_len (xs := cur) encZ_len (by omega) h.drop
      have e2 : IntKind.wrap .i64 ((i : Int) + 1) = ((i + 1 : Nat) : Int) := by rw [w64'] <;> omega
      rw [e2]
      refine NN_r (LD_r h (x := s) rfl (delI_c (s := s) h (by omega) (by omega) (encZ_one _) fun s' w hs' h => ⟨_, rfl, NN_r ?_⟩))
      simp only [Addr.add_mk]
      refine ST_r (b := b) h (by simp) rfl fun w h => ?_
      unfold f53.J3
      rw [e1]
      refine f53.L2_next ⟨j + 1, rfl, by omega, ?_, ?_⟩ (by omega)
      · rw [hnext]; omega
      · rw [hnext]
        refine SetC.mk (s := s') ?_ (sRem_sorted hs)
        rw [encF_del encZ_len] at h
        have e : cur.take i ++ cur.drop (i + 1) = sRem ys[j] cur := by
          have hc : cur = cur.take i ++ ys[j] :: cur.drop (i + 1) := by
            conv => lhs; rw [← List.take_append_drop i cur, List.drop_eq_getElem_cons hlt]
            rw [show cur[i] = ys[j] by rw [List.getElem?_eq_getElem hlt] at hm; exact Option.some.inj hm]
          unfold sRem
          conv => rhs; rw [hc]
          rw [List.filter_append, List.filter_cons]
          simp only [ne_eq, not_true_eq_false, decide_false, Bool.false_eq_true, if_false]
          have hp := hs
          rw [hc, List.pairwise_append] at hp
          obtain ⟨_, hp2, hp3⟩ := hp
          rw [List.pairwise_cons] at hp2
          rw [List.filter_eq_self.2 (fun y hy => by have := hp3 y hy ys[j] (by simp); simp; omega), List.filter_eq_self.2 (fun y hy => by have := hp2.1 y hy; simp; omega)]
        rw [e] at h
        exact SatL.sub (by simpa using h)
    · unfold f53.J3
      rw [e1]
      refine f53.L2_next ⟨j + 1, rfl, by omega, ?_, ?_⟩ (by omega)
      · rw [hnext]; omega
      · rw [hnext]
        have hnm : ys[j] ∉ cur := fun hx => hm (hmem.2 hx)
        have e : sRem ys[j] cur = cur := List.filter_eq_self.2 fun y hy => by
          have : y ≠ ys[j] := fun e => hnm (e ▸ hy)
          simpa using this
        rw [e]
        exact SetC.mk h hs
  · have e : j = ys.length := by omega
    subst e
    unfold f53.J1
    rw [hcur, List.take_length] at h
    exact hk n _ h
theorem setNew_c (hw : SatL w l) (hk : ∀ b w', SatL w' (own SetC b [] :: l) → k (.pointer (some ⟨b, 0, none⟩)) w') : CALL Tryz.prog 32 #[slv (none, 0, 0)] k w := by
  apply f32.call
  unfold f32.b
  refine AL_r hw fun q w h => ?_
  have h2 : SatL w (own SetC q [] :: l) := SetC.mk (s := (none, 0, 0)) ((Row.nil (sz := 1) (t := 3) h).swap) List.Pairwise.nil
  have h3 : SatL w (own SetC q [] :: own (Row 1 3) (none, 0, 0) (encF encZ []) :: l) := (Row.nil (sz := 1) (t := 3) h2).swap
  exact sadd_c (xs := []) (ys := []) h3 (by simp) fun n w h => ⟨_, rfl, hk _ _ h.swap.drop⟩
end
end Go.Proofs.YtlefdgplobifiaaGreatDoor
