/- Binary search over rows of numbers, and of members by their numbers. -/
import Derived.Test.YtlefdgplobifiaaGreatDoorEncG
import Derived.Test.YtlefdgplobifiaaGreatDoorStr
import Derived.Test.YtlefdgplobifiaaGreatDoorGC
import Derived.Test.YtlefdgplobifiaaGreatDoorGD
set_option linter.unusedVariables false
set_option linter.unusedSimpArgs false
namespace Go.Proofs.YtlefdgplobifiaaGreatDoor
open Go
def encZ (x : Int) : List Value := [.int .i64 x]
theorem encZ_len (x : Int) : (encZ x).length = 1 := rfl
abbrev Mb := Int × Bool × Bool
def encM (x : Mb) : List Value := [.int .i64 x.1, .bool x.2.1, .bool x.2.2]
theorem encM_len (x : Mb) : (encM x).length = 3 := rfl
def encS (l : List UInt8) : List Value := [.string (St l)]
theorem encS_len (l : List UInt8) : (encS l).length = 1 := rfl
theorem encZ_one (xs : List Int) : ∀ v ∈ encF encZ xs, v.oneCell' = true := by
  intro v hv; simp only [encF, List.mem_flatMap, encZ, List.mem_singleton] at hv; obtain ⟨x, _, rfl⟩ := hv; rfl
theorem encM_one (xs : List Mb) : ∀ v ∈ encF encM xs, v.oneCell' = true := by
  intro v hv; simp only [encF, List.mem_flatMap, encM] at hv; obtain ⟨x, _, hx⟩ := hv; simp at hx; rcases hx with rfl | rfl | rfl <;> rfl
theorem encS_one (xs : List (List UInt8)) : ∀ v ∈ encF encS xs, v.oneCell' = true := by
  intro v hv; simp only [encF, List.mem_flatMap, encS, List.mem_singleton] at hv; obtain ⟨x, _, rfl⟩ := hv; rfl
theorem half {i j : Int} (hi : 0 ≤ i) (hj : 0 ≤ j) (hj2 : i + j ≤ 9223372036854775807) : IntKind.wrap .i64 (Int.fdiv (IntKind.wrap .u64 (IntKind.wrap .i64 (i + j))) (2 ^ (min (Int.toNat 1) (IntKind.bits .u64)))) = (i + j) / 2 := by
  have e1 : IntKind.wrap .i64 (i + j) = i + j := w64' (by omega)
  have e2 : IntKind.wrap .u64 (i + j) = i + j := by
    simp only [IntKind.wrap, IntKind.signed, IntKind.bits]
    simp
    omega
  have e3 : (2 : Int) ^ (min (Int.toNat 1) (IntKind.bits .u64)) = 2 := rfl
  rw [e1, e2, e3, Int.fdiv_eq_ediv_of_nonneg _ (by omega)]
  exact w64' (by omega)
theorem LD_get {w : World} {α : Type} {mk : α → Value} {b i : Nat} {cs : Array Value} {t : TypeId} {fz : Nat × Nat} {k : α → World → Prop} {x : α} (h : w.heap[b]? = some (.cells cs t fz)) (hi : cs[i]? = some (mk x)) (hk : k x w) : LD mk ⟨b, i, none⟩ k w :=
  ⟨x, by rw [cell_of h]; exact hi, hk⟩
section
variable {w : World} {l r : List HProp} {k : Value → World → Prop} {s : Sl}
theorem IX_Z {xs : List Int} {i : Int} {x : Int} {K : Int → World → Prop} (hw : SatL w l) [g : FindO l (Row 1 3) s (encF encZ xs) r] (h0 : 0 ≤ i) (hx : xs[i.toNat]? = some x) (hk : K x w) : IX s i 1 (fun a => LD (Value.int .i64) a K w) :=
  IX_enc 3 (xs := xs) (x := x) encZ_len hw h0 hx (by omega) fun b sp c _ _ hb hg => by
    have := hg 0 (by omega)
    exact LD_get hb.get (by simpa [encZ] using this) hk
theorem IX_S {xs : List (List UInt8)} {i : Int} {x : List UInt8} {K : ByteArray → World → Prop} (hw : SatL w l) [g : FindO l (Row 1 9) s (encF encS xs) r] (h0 : 0 ≤ i) (hx : xs[i.toNat]? = some x) (hk : K (St x) w) : IX s i 1 (fun a => LD Value.string a K w) :=
  IX_enc 9 (xs := xs) (x := x) encS_len hw h0 hx (by omega) fun b sp c _ _ hb hg => by
    have := hg 0 (by omega)
    exact LD_get hb.get (by simpa [encS] using this) hk
theorem IX_M {xs : List Mb} {i : Int} {x : Mb} {K : Int → Bool → Bool → World → Prop} (hw : SatL w l) [g : FindO l (Row 3 39) s (encF encM xs) r] (h0 : 0 ≤ i) (hx : xs[i.toNat]? = some x) (hk : K x.1 x.2.1 x.2.2 w) :
    IX s i 3 (fun a => LD (Value.int .i64) (Addr.add a 0) (fun n w => LD Value.bool (Addr.add a 1) (fun b w => LD Value.bool (Addr.add a 2) (fun c w => K n b c w) w) w) w) :=
  IX_enc 39 (xs := xs) (x := x) encM_len hw h0 hx (by omega) fun b sp c _ _ hb hg => by
    have g0 := hg 0 (by omega)
    have g1 := hg 1 (by omega)
    have g2 := hg 2 (by omega)
    simp only [Addr.add_mk]
    exact LD_get hb.get (by simpa [encM] using g0) (LD_get hb.get (by simpa [encM] using g1) (LD_get hb.get (by simpa [encM] using g2) hk))
theorem less_c {a b : Int} (hk : k (.bool (decide (a < b))) w) : CALL Tryz.prog 111 #[.int .i64 a, .int .i64 b] k w := by
  apply f111.call
  unfold f111.b
  have : ∀ n : Int, ∀ k' : Value → World → Prop, k' (.bool false) w → CALL Tryz.prog 99 #[.int .i64 n] k' w := fun n k' h => by
    apply f99.call
    unfold f99.b
    simpa using h
  exact this _ _ ⟨_, rfl, brF rfl hk⟩
def cmpI (a b : Int) : Int := if a < b then -1 else if b < a then 1 else 0
theorem cmpI_lt {a b : Int} : cmpI a b < 0 ↔ a < b := by
  unfold cmpI
  by_cases h : a < b
  · simp [h]
  · by_cases h2 : b < a <;> simp [h, h2]
theorem cmpI_zero {a b : Int} : cmpI a b = 0 ↔ a = b := by
  unfold cmpI
  by_cases h : a < b
  · simp [h]; omega
  · by_cases h2 : b < a
    · simp [h, h2]; omega
    · simp [h, h2]; omega
theorem cmp_c {a b : Int} (hk : k (.int .i64 (cmpI a b)) w) : CALL Tryz.prog 68 #[.int .i64 a, .int .i64 b] k w := by
  apply f68.call
  unfold f68.b
  have : ∀ n : Int, ∀ k' : Value → World → Prop, k' (.bool false) w → CALL Tryz.prog 99 #[.int .i64 n] k' w := fun n k' h => by
    apply f99.call
    unfold f99.b
    simpa using h
  refine this _ _ ⟨_, rfl, this _ _ ⟨_, rfl, brF rfl (brF rfl (brD (fun h => ?_) fun h => brD (fun h2 => ?_) fun h2 => ?_))⟩⟩
  · rw [show cmpI a b = -1 by simp [cmpI, h]] at hk; exact hk
  · rw [show cmpI a b = 1 by simp [cmpI, h, h2]] at hk; exact hk
  · rw [show cmpI a b = 0 by simp [cmpI, h, h2]] at hk; exact hk
theorem pw_get {α : Type} {R : α → α → Prop} {xs : List α} (h : xs.Pairwise R) {m m' : Nat} {x y : α} (hm : m < m') (hx : xs[m]? = some x) (hy : xs[m']? = some y) : R x y := by
  obtain ⟨h1, rfl⟩ := List.getElem?_eq_some_iff.1 hx
  obtain ⟨h2, rfl⟩ := List.getElem?_eq_some_iff.1 hy
  exact List.pairwise_iff_getElem.1 h _ _ h1 h2 hm
theorem binI_c {xs : List Int} {x : Int} (hw : SatL w l) [f : FindO l (Row 1 3) s (encF encZ xs) r] (hn : xs.length ≤ 100000000) (hs : xs.Pairwise (· < ·))
    (hk : ∀ i : Nat, i ≤ xs.length → (∀ (m : Nat) y, m < i → xs[m]? = some y → y < x) → (∀ (m : Nat) y, i ≤ m → xs[m]? = some y → ¬ y < x) → k (.tuple #[.int .i64 i, .bool (decide (xs[i]? = some x))]) w) :
    CALL Tryz.prog 86 #[slv s, .int .i64 x] k w := by
  have hl := Row.enc_len encZ_len (by omega) (hw.find (A := Row 1 3) s)
  apply f86.call
  unfold f86.b
  refine f86.L2_rule (fun i j w' => w' = w ∧ (0 ≤ i ∧ i ≤ j ∧ j ≤ xs.length) ∧ (∀ (m : Nat) y, m < i.toNat → xs[m]? = some y → y < x) ∧ (∀ (m : Nat) y, j.toNat ≤ m → xs[m]? = some y → ¬ y < x)) (fun i j _ => (j - i).toNat) ⟨rfl, ⟨by omega, by omega, by omega⟩, fun m x h => by simp at h, fun m x h hx => by
      have := (List.getElem?_eq_some_iff.1 hx).1; simp at h; omega⟩ ?_
  rintro i j w' ⟨rfl, ⟨hi, hij, hj⟩, hlo, hhi⟩
  unfold f86.L2
  refine brD (fun hlt => ?_) fun hge => ?_
  · refine RQ_r (by omega) ?_
    rw [half hi (by omega) (by omega)]
    obtain ⟨y, hy⟩ : ∃ y, xs[((i + j) / 2).toNat]? = some y := ⟨_, List.getElem?_eq_getElem (by omega)⟩
    refine IX_Z hw (by omega) hy (less_c ⟨_, rfl, brD (fun hc => ?_) fun hc => ?_⟩)
    · rw [show IntKind.wrap .i64 ((i + j) / 2 + 1) = (i + j) / 2 + 1 from w64' (by omega)]
      refine f86.L2_next ⟨rfl, ⟨by omega, by omega, hj⟩, fun m z hm hz => ?_, hhi⟩ (by omega)
      by_cases he : m = ((i + j) / 2).toNat
      · subst he; rw [hy] at hz; cases hz; exact hc
      · have := pw_get hs (show m < ((i + j) / 2).toNat by omega) hz hy; omega
    · refine f86.L2_next ⟨rfl, ⟨by omega, by omega, by omega⟩, hlo, fun m z hm hz => ?_⟩ (by omega)
      by_cases he : m = ((i + j) / 2).toNat
      · subst he; rw [hy] at hz; cases hz; exact hc
      · have := pw_get hs (show ((i + j) / 2).toNat < m by omega) hy hz; omega
  · have hij : i = j := by omega
    subst hij
    have hk := hk i.toNat (by omega) hlo hhi
    rw [Int.toNat_of_nonneg hi] at hk
    unfold f86.J1
    refine brD (fun hlt => ?_) fun hge => ?_
    · obtain ⟨y, hy⟩ : ∃ y, xs[i.toNat]? = some y := ⟨_, List.getElem?_eq_getElem (by omega)⟩
      rw [hy] at hk
      refine IX_Z hw (by omega) hy (brE (fun h => ?_) fun h => IX_Z hw (by omega) hy ?_)
      · subst h; simpa using hk
      · have : ∀ n : Int, ∀ k' : Value → World → Prop, k' (.bool false) w' → CALL Tryz.prog 112 #[.int .i64 n] k' w' := fun n k' h => by
          apply f112.call
          unfold f112.b
          simpa using h
        refine this _ _ ⟨_, rfl, brF rfl ?_⟩
        simpa [h] using hk
    · rw [List.getElem?_eq_none (by omega)] at hk
      simpa using hk
/-- The search of a member by its number. -/
theorem at1_c {x : Mb} {id : Int} (hw : SatL w l) (hk : ∀ w', SatL w' l → k (.int .i64 (cmpI x.1 id)) w') : CALL Tryz.prog 67 #[.agg #[.int .i64 x.1, .bool x.2.1, .bool x.2.2], .int .i64 id] k w := by
  apply f67.call
  unfold f67.b
  refine AL_r hw fun q w h => ?_
  simp only [Addr.add_mk]
  exact LD_r h (x := x.1) rfl (cmp_c ⟨_, rfl, hk _ h.drop⟩)
theorem binM_c {xs : List Mb} {id : Int} (hw : SatL w l) [f : FindO l (Row 3 39) s (encF encM xs) r] (hn : xs.length ≤ 100000000) (hs : xs.Pairwise (·.1 < ·.1))
    (hk : ∀ (i : Nat) w', i ≤ xs.length → (∀ (m : Nat) y, m < i → xs[m]? = some y → y.1 < id) → (∀ (m : Nat) y, i ≤ m → xs[m]? = some y → ¬ y.1 < id) → SatL w' l → k (.tuple #[.int .i64 i, .bool (decide ((xs[i]?).map (·.1) = some id))]) w') :
    CALL Tryz.prog 66 #[slv s, .int .i64 id, .func (.func 67) #[] #[]] k w := by
  have hl := Row.enc_len encM_len (by omega) (hw.find (A := Row 3 39) s)
  apply f66.call
  unfold f66.b
  refine f66.L2_rule (fun i j w' => (0 ≤ i ∧ i ≤ j ∧ j ≤ xs.length) ∧ (∀ (m : Nat) y, m < i.toNat → xs[m]? = some y → y.1 < id) ∧ (∀ (m : Nat) y, j.toNat ≤ m → xs[m]? = some y → ¬ y.1 < id) ∧ SatL w' l) (fun i j _ => (j - i).toNat) ⟨⟨by omega, by omega, by omega⟩, fun m x h => by simp at h, fun m x h hx => by
      have := (List.getElem?_eq_some_iff.1 hx).1; simp at h; omega, hw⟩ ?_
  rintro i j w' ⟨⟨hi, hij, hj⟩, hlo, hhi, h⟩
  unfold f66.L2
  refine brD (fun hlt => ?_) fun hge => ?_
  · refine RQ_r (by omega) ?_
    rw [half hi (by omega) (by omega)]
    obtain ⟨y, hy⟩ : ∃ y, xs[((i + j) / 2).toNat]? = some y := ⟨_, List.getElem?_eq_getElem (by omega)⟩
    refine IX_M (K := fun n b c w => DYN _ _ #[.agg #[.int .i64 n, .bool b, .bool c], _] _ w) h (by omega) hy ⟨at1_c h fun w h => ⟨_, rfl, brD (fun hc => ?_) fun hc => ?_⟩⟩
    · rw [cmpI_lt] at hc
      rw [show IntKind.wrap .i64 ((i + j) / 2 + 1) = (i + j) / 2 + 1 from w64' (by omega)]
      refine f66.L2_next ⟨⟨by omega, by omega, hj⟩, fun m z hm hz => ?_, hhi, h⟩ (by omega)
      by_cases he : m = ((i + j) / 2).toNat
      · subst he; rw [hy] at hz; cases hz; exact hc
      · have := pw_get hs (show m < ((i + j) / 2).toNat by omega) hz hy; omega
    · rw [cmpI_lt] at hc
      refine f66.L2_next ⟨⟨by omega, by omega, by omega⟩, hlo, fun m z hm hz => ?_, h⟩ (by omega)
      by_cases he : m = ((i + j) / 2).toNat
      · subst he; rw [hy] at hz; cases hz; exact hc
      · have := pw_get hs (show ((i + j) / 2).toNat < m by omega) hy hz; omega
  · have hij : i = j := by omega
    subst hij
    have hk := fun w' => hk i.toNat w' (by omega) hlo hhi
    rw [Int.toNat_of_nonneg hi] at hk
    unfold f66.J1
    refine brD (fun hlt => ?_) fun hge => ?_
    · obtain ⟨y, hy⟩ : ∃ y, xs[i.toNat]? = some y := ⟨_, List.getElem?_eq_getElem (by omega)⟩
      rw [hy] at hk
      refine IX_M (K := fun n b c w => DYN _ _ #[.agg #[.int .i64 n, .bool b, .bool c], _] _ w) h (by omega) hy ⟨at1_c h fun w h => ⟨_, rfl, ?_⟩⟩
      have hk := hk w h
      have e : (cmpI y.1 id == 0) = decide (Option.map (fun x : Mb => x.1) (some y) = some id) := by
        rw [Bool.eq_iff_iff]; simp [cmpI_zero]
      rw [e]; exact hk
    · have hk := hk w' h
      rw [List.getElem?_eq_none (by omega)] at hk
      simpa using hk
end
end Go.Proofs.YtlefdgplobifiaaGreatDoor
