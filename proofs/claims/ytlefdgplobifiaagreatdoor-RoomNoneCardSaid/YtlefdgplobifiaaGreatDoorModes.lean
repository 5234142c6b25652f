/- Flag, Modes, Texts. -/
import Derived.Test.YtlefdgplobifiaaGreatDoorIter
import Derived.Test.YtlefdgplobifiaaGreatDoorOld
set_option linter.unusedVariables false
set_option linter.unusedSimpArgs false
namespace Go.Proofs.YtlefdgplobifiaaGreatDoor
open Go
/-- The library's table of the powers of ten lies in the old world. -/
def Pow10 (W : World) : Prop := Lib.TabIs Tryz.prog W "internal/strconv.uint64pow10" .u64 Lib.pow10Tab
section
variable {w : World} {l r r1 : List HProp} {k : Value → World → Prop} {b : Nat} {s : RS} {id : Int} {W : World}
theorem Pow10.now (hT : Pow10 W) (h : SatL w (own Old W () :: r)) : Pow10 w := by
  unfold Pow10 Lib.TabIs World.var? at *
  cases hg : Tryz.prog.globalNamed "internal/strconv.uint64pow10" with
  | none => rw [hg] at hT; simp at hT
  | some g =>
    rw [hg] at hT
    simp only [Option.bind_some] at hT ⊢
    cases hW : W.heap[g]? with
    | none => rw [hW] at hT; simp at hT
    | some o =>
      have := SatL.of_all (show SatL w (All W :: r) from h)
      rw [this.2.2.2 g o hW]
      rw [hW] at hT
      exact hT
theorem itoa_c {n : Int} (hT : Pow10 W) (hw : SatL w l) [f : FindO l Old W () r] (hn : -9223372036854775808 ≤ n ∧ n ≤ 9223372036854775807) (hk : ∀ w', SatL w' l → k (.string (St (Lib.itoa n))) w') : CALL Tryz.prog 37 #[.int .i64 n] k w := by
  have h := Any.strconv_Itoa Tryz.itoaA n hn.1 hn.2 w (hT.now (hw.find (A := Old) W))
  refine ⟨.inl ⟨Tryz.call37 _ _, h.mono ?_⟩⟩
  rintro e w' ⟨rfl, m, os, rfl⟩
  refine ⟨_, rfl, hk _ (hw.of_below ?_)⟩
  refine ⟨rfl, rfl, rfl, ?_, fun i hi => ?_⟩
  · show w.heap.size ≤ (w.heap ++ os).size
    simp
  · show (w.heap ++ os)[i]? = w.heap[i]?
    rw [Array.getElem?_append_left hi]
def letB : List UInt8 := [105, 109, 110, 115, 116]
/-- A flag's bit. -/
def bitI (c : UInt8) : Int := if 0 ≤ ixB letB c then IntKind.wrap .i64 (1 * 2 ^ (min (ixB letB c).toNat (IntKind.bits .i64))) else 0
theorem bit_c {c : UInt8} (hk : k (.int .i64 (bitI c)) w) : CALL Tryz.prog 49 #[.int .u8 (c.toNat : Int)] k w := by
  apply f49.call
  unfold f49.b
  refine indexByte_c (s := letB) ⟨_, rfl, ?_⟩
  unfold bitI at hk
  refine brD (fun h => RQ_r h ?_) fun h => ?_
  · rw [if_pos h] at hk; exact hk
  · rw [if_neg h] at hk; exact hk
def RS.flag (s : RS) (c : UInt8) : Bool := intBit .and .i64 s.flags (bitI c) != 0
theorem rflag_c {c : UInt8} (hw : SatL w l) [f : FindO l RmC b s r] (hk : ∀ w', SatL w' (own RmC b s :: r) → k (.bool (s.flag c)) w') : CALL Tryz.prog 23 #[.pointer (some ⟨b, 0, none⟩), .int .u8 (c.toNat : Int)] k w := by
  obtain ⟨sm, sb, bi, hs, h⟩ := RmC.out (hw.find (A := RmC) b)
  apply f23.call
  unfold f23.b
  refine DRC_r h fun w h => brT rfl (NN_r (STL_r (x := s.flags) rfl (bit_c ⟨_, rfl, h, hk _ (RmC.mk h hs)⟩)))
/-! ### Modes -/
def mStep (s : RS) (all : Bool) (x : List UInt8 × List (List UInt8)) (c : UInt8) : List UInt8 × List (List UInt8) :=
  if c = 107 ∧ s.key ≠ [] then (x.1 ++ [107], x.2 ++ [if all then s.key else [42]])
  else if c = 108 ∧ 0 < s.limit then (x.1 ++ [108], if all then x.2 ++ [Lib.itoa s.limit] else x.2)
  else if s.flag c then (x.1 ++ [c], x.2) else x
def modeL : List UInt8 := [105, 107, 108, 109, 110, 115, 116]
def RS.modes (s : RS) (all : Bool) : List (List UInt8) := (fun x => x.1 :: x.2) (modeL.foldl (mStep s all) ([43], []))
theorem mStep_row (s : RS) (all : Bool) : ∀ (ls : List UInt8) (x : List UInt8 × List (List UInt8)), (ls.foldl (mStep s all) x).1.length ≤ x.1.length + ls.length ∧ (ls.foldl (mStep s all) x).2.length ≤ x.2.length + ls.length
  | [], x => by simp
  | c :: ls, x => by
    have ih := mStep_row s all ls (mStep s all x c)
    have h1 : (mStep s all x c).1.length ≤ x.1.length + 1 ∧ (mStep s all x c).2.length ≤ x.2.length + 1 := by
      unfold mStep
      split
      · simp
      · split
        · split <;> simp
        · split <;> simp
    simp only [List.foldl_cons, List.length_cons]
    omega
theorem utf8_mode : ∀ c ∈ modeL, Utf8.encode (IntKind.wrap .i32 ((c.toNat : Nat) : Int)) = St [c] := by decide +kernel
theorem mapGet_at {kd : TypeDesc} {key : Value} {q cl : Nat} {es : Array MapEntry} (h : w.heap[q]? = some (.map es cl)) : mapGet w (some q) kd key = (Instr.findNow kd key es.toList 0).map (·.map (·.2)) := by simp [mapGet, h]
/-- A map of two texts, by whether. -/
theorem boolMap {x y : List UInt8} {bb : Bool} {K : Value → Bool → World → Prop} {q : Nat} (hw : SatL w (own Blk q (.map #[] 0) :: l)) (hk : ∀ u w', SatL w' l → K (.string (St (if bb then x else y))) u w') :
    MU (some q) .bool (.bool true) (.string (St x)) (fun w => MU (some q) .bool (.bool false) (.string (St y)) (fun w => LK (some q) .bool (.bool bb) (.string (⟨#[]⟩ : ByteArray)) K w) w) w := by
  refine ⟨q, #[], 0, _, rfl, hw.get, rfl, ?_⟩
  have h1 := hw.put (.map #[{ key := .bool true, val := .string (St x), born := 0 }] 1)
  refine ⟨q, #[{ key := .bool true, val := .string (St x), born := 0 }], 1, _, rfl, h1.get, rfl, ?_⟩
  have h2 := h1.put (.map #[{ key := .bool true, val := .string (St x), born := 0 }, { key := .bool false, val := .string (St y), born := 1 }] 2)
  cases bb with
  | true => exact ⟨some (.string (St x)), (mapGet_at h2.get).trans rfl, hk _ _ h2.drop⟩
  | false => exact ⟨some (.string (St y)), (mapGet_at h2.get).trans rfl, hk _ _ h2.drop⟩
/-- append of one text. -/
theorem app_str {so : Sl} {xs : List (List UInt8)} {x : List UInt8} {K : Sl → World → Prop} (hw : SatL w l) [f : FindO l (Row 1 9) so (encF encS xs) r] (hn : xs.length ≤ 1000000) (hk : ∀ s' w', SatL w' (own (Row 1 9) s' (encF encS (xs ++ [x])) :: r) → K s' w') :
    AL (.cells #[.string (St x)] 9) (fun q w => APP 9 1 16 #[.string (⟨#[]⟩ : ByteArray)] so 1 (fun w => cellsOfS w ((some ⟨q, 0, none⟩), 1, 1) (1 * 1)) K w) w := by
  refine AL_r hw fun q w h => ?_
  have hl := Row.enc_len (xs := xs) encS_len (by omega) (hw.find (A := Row 1 9) so)
  have hnew : cellsOfS w (some ⟨q, 0, none⟩, 1, 1) (1 * 1) = some (encS x) := by
    show cellsAt w ⟨q, 0, none⟩ 0 1 = _
    rw [cellsAt_r h.get (by simp)]
    simp [encS]
  refine APP_r (s := so) (cs := encF encS xs) h (by simp) hnew rfl (by simp [encS, Value.oneCell']) (by omega) (by omega) fun s' w hs' h => hk _ _ ?_
  rw [encF_app, encF_one_el]
  exact h.swap.drop
theorem rmodes_c {all : Bool} (hT : Pow10 W) (hw : SatL w l) [g : FindO l Old W () r1] [f : FindO r1 RmC b s r] (hn : s.small) (hlim : s.limit ≤ 1000000) (hk : ∀ sl w', SatL w' (own (Row 1 9) sl (encF encS (s.modes all)) :: own Old W () :: own RmC b s :: r) → k (slv sl) w') :
    CALL Tryz.prog 12 #[.pointer (some ⟨b, 0, none⟩), .bool all] k w := by
  have h0 : SatL w (own Old W () :: own RmC b s :: r) := hw.perm (g.perm.trans (f.perm.cons _))
  apply f12.call
  unfold f12.b
  refine brF rfl (AL_r h0 fun q w h => ?_)
  refine ⟨5, 7, by have := h.get; simp [World.shape?, this], ?_⟩
  have h1 : SatL (w.freeze ⟨q, 7, none⟩ 1) (own Blk q (.cells (bc modeL).toArray 5 (7, 8)) :: own Old W () :: own RmC b s :: r) := by
    have h2 := h.put (.cells (bc modeL).toArray 5 (7, 8))
    have e : w.freeze ⟨q, 7, none⟩ 1 = w.putObj q (.cells (bc modeL).toArray 5 (7, 8)) := by
      have hg := h.get
      unfold World.freeze World.putObj
      rw [if_neg (by decide)]
      congr 1
      apply Array.ext_getElem?
      intro m
      by_cases hm : q = m
      · subst hm
        have hlt := (Array.getElem?_eq_some_iff.1 hg).1
        rw [Array.getElem?_modify, if_pos rfl, hg, Array.getElem?_setIfInBounds_self_of_lt hlt]
        rfl
      · simp [Array.getElem?_modify, hm]
    rw [e]; exact h2
  clear h h0 hw
  have hrow := mStep_row s all
  refine f12.L2_rule (fun row so i w => ∃ j : Nat, i = j ∧ j ≤ 7 ∧ row = St ((modeL.take j).foldl (mStep s all) ([43], [])).1 ∧
    SatL w (own (Row 1 9) so (encF encS ((modeL.take j).foldl (mStep s all) ([43], [])).2) :: own Blk q (.cells (bc modeL).toArray 5 (7, 8)) :: own Old W () :: own RmC b s :: r)) (fun _ _ i _ => (7 - i).toNat) ⟨0, rfl, by omega, rfl, Row.nil h1⟩ ?_
  rintro row so i w ⟨j, rfl, hj, rfl, h⟩
  unfold f12.L2
  refine brD (fun h1 => ?_) fun h1 => ?_
  · have hj : j < 7 := by omega
    obtain ⟨x, hx⟩ : ∃ x, x = (modeL.take j).foldl (mStep s all) ([43], []) := ⟨_, rfl⟩
    rw [← hx] at h ⊢
    have hxl := hrow (modeL.take j) ([43], [])
    rw [← hx, List.length_take] at hxl
    simp only [List.length_singleton, List.length_nil] at hxl
    have hm7 : modeL.length = 7 := rfl
    obtain ⟨c, hc⟩ : ∃ c, modeL[j]? = some c := ⟨_, List.getElem?_eq_getElem (by omega)⟩
    have hcm : c ∈ modeL := List.mem_of_getElem? hc
    have hnext : (modeL.take (j + 1)).foldl (mStep s all) ([43], []) = mStep s all x c := by
      rw [take_one hc, List.foldl_append, ← hx]; rfl
    have e1 : IntKind.wrap .i64 ((j : Int) + 1) = ((j + 1 : Nat) : Int) := by rw [w64'] <;> omega
    -- the round's end
    have fin : ∀ (row : List UInt8) (so : Sl) (w : World), mStep s all x c = (row, (mStep s all x c).2) → SatL w (own (Row 1 9) so (encF encS (mStep s all x c).2) :: own Blk q (.cells (bc modeL).toArray 5 (7, 8)) :: own Old W () :: own RmC b s :: r) →
        f12.J3 (some ⟨b, 0, none⟩) all (St row) so (some ⟨q, 0, none⟩, 7, 7) ((7 : Nat) : Int) j (f12.L2K (some ⟨b, 0, none⟩) all (some ⟨q, 0, none⟩, 7, 7) ((7 : Nat) : Int) (fun row so i w => ∃ j : Nat, i = j ∧ j ≤ 7 ∧ row = St ((modeL.take j).foldl (mStep s all) ([43], [])).1 ∧
          SatL w (own (Row 1 9) so (encF encS ((modeL.take j).foldl (mStep s all) ([43], [])).2) :: own Blk q (.cells (bc modeL).toArray 5 (7, 8)) :: own Old W () :: own RmC b s :: r)) (fun _ _ i _ => (7 - i).toNat) ((7 - (j : Int)).toNat)) k w := by
      intro row so w hr h
      unfold f12.J3
      rw [e1]
      refine f12.L2_next ⟨j + 1, rfl, by omega, ?_, ?_⟩ (by omega)
      · rw [hnext, hr]
      · rw [hnext]; exact h
    have hsz : x.1.length ≤ 8 := by omega
    -- the letter's flag
    have flagged : ∀ w, ¬ (c = 107 ∧ s.key ≠ []) → ¬ (c = 108 ∧ 0 < s.limit) → SatL w (own (Row 1 9) so (encF encS x.2) :: own Blk q (.cells (bc modeL).toArray 5 (7, 8)) :: own Old W () :: own RmC b s :: r) →
        CALL Tryz.prog 23 #[.pointer (some ⟨b, 0, none⟩), .int .u8 (c.toNat : Int)] (fun v w => ∃ bb : Bool, v = .bool bb ∧ brK bb (RQ ((((St x.1).size + (Utf8.encode (IntKind.wrap .i32 (c.toNat : Int))).size : Nat) : Int) ≤ 9223372036854775807) (f12.J3 (some ⟨b, 0, none⟩) all (St x.1 ++ (Utf8.encode (IntKind.wrap .i32 (c.toNat : Int)))) so (some ⟨q, 0, none⟩, 7, 7) ((7 : Nat) : Int) j (f12.L2K (some ⟨b, 0, none⟩) all (some ⟨q, 0, none⟩, 7, 7) ((7 : Nat) : Int) (fun row so i w => ∃ j : Nat, i = j ∧ j ≤ 7 ∧ row = St ((modeL.take j).foldl (mStep s all) ([43], [])).1 ∧
          SatL w (own (Row 1 9) so (encF encS ((modeL.take j).foldl (mStep s all) ([43], [])).2) :: own Blk q (.cells (bc modeL).toArray 5 (7, 8)) :: own Old W () :: own RmC b s :: r)) (fun _ _ i _ => (7 - i).toNat) ((7 - (j : Int)).toNat)) k w)) (f12.J3 (some ⟨b, 0, none⟩) all (St x.1) so (some ⟨q, 0, none⟩, 7, 7) ((7 : Nat) : Int) j (f12.L2K (some ⟨b, 0, none⟩) all (some ⟨q, 0, none⟩, 7, 7) ((7 : Nat) : Int) (fun row so i w => ∃ j : Nat, i = j ∧ j ≤ 7 ∧ row = St ((modeL.take j).foldl (mStep s all) ([43], [])).1 ∧
          SatL w (own (Row 1 9) so (encF encS ((modeL.take j).foldl (mStep s all) ([43], [])).2) :: own Blk q (.cells (bc modeL).toArray 5 (7, 8)) :: own Old W () :: own RmC b s :: r)) (fun _ _ i _ => (7 - i).toNat) ((7 - (j : Int)).toNat)) k w)) w := by
      intro w n1 n2 h
      have hstep : mStep s all x c = if s.flag c then (x.1 ++ [c], x.2) else x := by unfold mStep; rw [if_neg n1, if_neg n2]
      refine rflag_c h fun w h => ⟨_, rfl, br (fun hf => ?_) fun hf => ?_⟩
      · rw [hf, if_pos rfl] at hstep
        rw [utf8_mode c hcm, St_app, St_size, St_size]
        refine RQ_r (by simp; omega) (fin _ so w (by rw [hstep]) ?_)
        rw [hstep]; exact h.sub
      · rw [hf, if_neg (by decide)] at hstep
        refine fin _ so w (by rw [hstep]) ?_
        rw [hstep]; exact h.sub
    refine ⟨_, rfl, by omega, by simp only; omega, ?_⟩
    rw [Addr.add_mk]
    refine LD_r (b := q) h (x := (c.toNat : Int)) (by simp [bc, hc]) ?_
    obtain ⟨sm, sb, bi, hs, ho⟩ := RmC.out (h.find (A := RmC) b)
    refine brE (fun h7 => ?_) fun h7 => ?_
    · have hc7 : c = 107 := u8_inj h7
      refine NN_r (LD_r (b := b) ho (x := St s.key) rfl ?_)
      rw [show (⟨#[]⟩ : ByteArray) = St [] from rfl, St_eq]
      refine brN (brD (fun hk0 => ?_) fun hk0 => ?_)
      · refine brF (by rw [h7]; rfl) (flagged w (fun e => e.2 hk0) (fun e => by rw [hc7] at e; exact absurd e.1 (by decide)) h)
      · have hstep : mStep s all x c = (x.1 ++ [107], x.2 ++ [if all then s.key else [42]]) := by unfold mStep; rw [if_pos ⟨hc7, hk0⟩]
        rw [show (⟨#[107]⟩ : ByteArray) = St [107] from rfl, St_size, St_size]
        refine RQ_r (by simp; omega) (AL_r h fun q2 w h => ?_)
        obtain ⟨sm, sb, bi, hs, ho⟩ := RmC.out (h.find (A := RmC) b)
        refine NN_r (LD_r (b := b) ho (x := St s.key) rfl ?_)
        refine boolMap (y := [42]) h fun u w h => ⟨_, rfl, app_str h (by omega) fun s' w h => ?_⟩
        rw [St_app]
        refine fin _ s' w (by rw [hstep]) ?_
        rw [hstep]; exact h.sub
    · have n1 : ¬ (c = 107 ∧ s.key ≠ []) := fun e => h7 (by rw [e.1]; rfl)
      refine brE (fun h8 => ?_) fun h8 => ?_
      · have hc8 : c = 108 := u8_inj h8
        refine NN_r (LD_r (b := b) ho (x := s.limit) rfl (brD (fun hl => ?_) fun hl => ?_))
        · have hstep : mStep s all x c = (x.1 ++ [108], if all then x.2 ++ [Lib.itoa s.limit] else x.2) := by unfold mStep; rw [if_neg n1, if_pos ⟨hc8, hl⟩]
          rw [show (⟨#[108]⟩ : ByteArray) = St [108] from rfl, St_size, St_size]
          refine RQ_r (by simp; omega) (br (fun ha => ?_) fun ha => ?_)
          · refine NN_r (LD_r (b := b) ho (x := s.limit) rfl (itoa_c hT h (by omega) fun w h => ⟨_, rfl, app_str h (by omega) fun s' w h => ?_⟩))
            rw [St_app]
            refine fin _ s' w (by rw [hstep]) ?_
            rw [hstep, ha]; exact h
          · rw [St_app]
            refine fin _ so w (by rw [hstep]) ?_
            rw [hstep, ha]; exact h
        · exact flagged w n1 (fun e => hl e.2) h
      · exact flagged w n1 (fun e => h8 (by rw [e.1]; rfl)) h
  · have hj7 : j = 7 := by omega
    subst hj7
    unfold f12.J1
    rw [show modeL.take 7 = modeL from rfl] at h ⊢
    obtain ⟨x, hx⟩ : ∃ x, x = modeL.foldl (mStep s all) ([43], []) := ⟨_, rfl⟩
    have hmodes : s.modes all = x.1 :: x.2 := by unfold RS.modes; rw [← hx]
    have hxl := hrow modeL ([43], [])
    rw [← hx] at h hxl ⊢
    have hm7 : modeL.length = 7 := rfl
    simp only [List.length_singleton, List.length_nil] at hxl
    have hso := Row.enc_len (xs := x.2) encS_len (by omega) h
    refine AL_r h fun q5 w h => ?_
    have h2 : SatL w (own (Row 1 9) (some ⟨q5, 0, none⟩, 1, 1) (encF encS [x.1]) :: _) := Row.mk (cs := encF encS [x.1]) (sp := []) h rfl rfl (Nat.le_refl _)
    have hnew : cellsOfS w so (so.2.1 * 1) = some (encF encS x.2) := by
      have := Row.cells h.drop (m := so.2.1) (Nat.le_refl _)
      rwa [List.take_of_length_le (by rw [encF_len encS_len]; omega)] at this
    refine APP_r (s := (some ⟨q5, 0, none⟩, 1, 1)) (cs := encF encS [x.1]) h2 (by simp) hnew (by rw [encF_len encS_len]; omega) (encS_one _) (by omega) (by simp only; omega) fun s' w hs' h => ?_
    rw [← encF_app, List.singleton_append] at h
    refine hk s' w ?_
    rw [hmodes]
    exact h.sub
theorem texts_c {sa sb : Sl} {xs ys : List (List UInt8)} (hw : SatL w l) [f : FindO l (Row 1 9) sa (encF encS xs) r] [g : FindO l (Row 1 9) sb (encF encS ys) r1] (hn : xs.length ≤ 1000000) (hk : ∀ w', SatL w' l → k (.bool (decide (xs = ys))) w') :
    CALL Tryz.prog 16 #[slv sa, slv sb] k w := by
  have ha := Row.enc_len (xs := xs) encS_len (by omega) (hw.find (A := Row 1 9) sa)
  have hb := Row.enc_len (xs := ys) encS_len (by omega) (hw.find (A := Row 1 9) sb)
  apply f16.call
  unfold f16.b
  rw [← ha, ← hb]
  refine brN (brE (fun he => ?_) fun he => ?_)
  · have he : xs.length = ys.length := by omega
    refine f16.L2_rule (fun i w => (∃ j : Nat, i = j ∧ j ≤ xs.length ∧ xs.take j = ys.take j) ∧ SatL w l) (fun i _ => (xs.length - i).toNat) ⟨⟨0, rfl, by omega, by simp⟩, hw⟩ ?_
    rintro i w ⟨⟨j, rfl, hj, ht⟩, h⟩
    unfold f16.L2
    rw [← ha]
    refine brD (fun h1 => ?_) fun h1 => ?_
    · have h1 : j < xs.length := by omega
      refine DR_r h fun w h => IX_S h (by omega) (x := xs[j]) (by simp [h1]) (IX_S h (by omega) (x := ys[j]'(by omega)) (by rw [Int.toNat_natCast, List.getElem?_eq_getElem (by omega)]) ?_)
      rw [St_eq]
      refine brN (brD (fun h2 => ?_) fun h2 => ?_)
      · refine f16.L2_next ⟨⟨j + 1, by rw [w64'] <;> omega, by omega, ?_⟩, h⟩ (by rw [w64'] <;> omega)
        rw [take_one (l := xs) (i := j) (x := xs[j]) (by simp [h1]), take_one (l := ys) (i := j) (x := ys[j]'(by omega)) (List.getElem?_eq_getElem (by omega)), ht, h2]
      · have := hk _ h
        rwa [decide_eq_false (fun e => h2 (by subst e; rfl))] at this
    · have e : j = xs.length := by omega
      subst e
      rw [List.take_length, he, List.take_length] at ht
      unfold f16.J1
      have := hk _ h
      rwa [decide_eq_true ht] at this
  · have := hk _ hw
    rwa [decide_eq_false (fun e => he (by rw [e]))] at this
end
end Go.Proofs.YtlefdgplobifiaaGreatDoor
