/- strings.Builder. -/
import Derived.Test.YtlefdgplobifiaaGreatDoorStr
import Derived.Test.YtlefdgplobifiaaGreatDoorEncG
import Derived.Test.YtlefdgplobifiaaGreatDoorGD
import Derived.Lib.Builder
import Derived.Lib.UnsafeStr
import Derived.Laws.Externs
set_option linter.unusedVariables false
set_option linter.unusedSimpArgs false
namespace Go.Proofs.YtlefdgplobifiaaGreatDoor
open Go
/-- Bytes in cells. -/
def bc (l : List UInt8) : List Value := l.map fun c => .int .u8 (c.toNat : Int)
theorem bc_len (l : List UInt8) : (bc l).length = l.length := by simp [bc]
theorem bc_one (l : List UInt8) : ∀ v ∈ bc l, v.oneCell' = true := by
  intro v hv
  simp only [bc, List.mem_map] at hv
  obtain ⟨c, _, rfl⟩ := hv
  rfl
/-- A builder that holds those bytes. -/
def Bld (b : Nat) (bs : List UInt8) : HProp := fun h => ∃ p s, (p = none ∨ p = some ⟨b, 0, none⟩) ∧ (s = (none, 0, 0) ∨ s.2.2 ≠ 0) ∧ sepL [own Blk b (.cells #[.pointer p, slv s] 121 (0, 0)), own (Row 1 5) s (bc bs)] h
section
variable {w : World} {l r : List HProp} {k : Value → World → Prop} {b : Nat} {bs : List UInt8}
theorem Bld.out (h : SatL w (own Bld b bs :: r)) : ∃ p s, (p = none ∨ p = some ⟨b, 0, none⟩) ∧ (s = (none, 0, 0) ∨ s.2.2 ≠ 0) ∧ SatL w (own Blk b (.cells #[.pointer p, slv s] 121 (0, 0)) :: own (Row 1 5) s (bc bs) :: r) := by
  obtain ⟨x, y, h1, h2, ⟨p, s, hp, hs, h3⟩, h4⟩ := h
  exact ⟨p, s, hp, hs, sepL_append.2 ⟨x, y, h1, h2, h3, h4⟩⟩
theorem Bld.mk {p : Option Addr} {s : Sl} (h : SatL w (own Blk b (.cells #[.pointer p, slv s] 121 (0, 0)) :: own (Row 1 5) s (bc bs) :: r)) (hp : p = none ∨ p = some ⟨b, 0, none⟩) (hs : s = (none, 0, 0) ∨ s.2.2 ≠ 0) : SatL w (own Bld b bs :: r) :=
  SatL.shut (L := [_, _]) h fun x hx => ⟨p, s, hp, hs, hx⟩
theorem Bld.new (h : SatL w (own Blk b (.cells #[.pointer none, slv (none, 0, 0)] 121 (0, 0)) :: r)) : SatL w (own Bld b [] :: r) :=
  Bld.mk ((Row.nil (sz := 1) (t := 5) h).swap) (.inl rfl) (.inl rfl)
theorem noEsc_c {v : Value} (hk : k v w) : CALL Tryz.prog 139 #[v] k w := by
  refine ⟨.inr ⟨_, _, ?_, hk⟩⟩
  rw [run_callFunc_extern Tryz.func139 (by kernel_rfl) (by kernel_rfl) (by kernel_rfl) (e := Extern.AbiNoEscape.same) (by kernel_rfl), Lib.run_noEscape]
  rfl
theorem size_bld : ∃ j, Tryz.prog.info? 121 = some j ∧ j.size = 2 := Option.map_eq_some_iff.1 (by kernel_rfl : (Tryz.prog.info? 121).map (·.size) = some 2)
theorem copyCheck_c {p : Option Addr} {v : Value} (hw : SatL w (own Blk b (.cells #[.pointer p, v] 121 (0, 0)) :: r)) (hp : p = none ∨ p = some ⟨b, 0, none⟩)
    (hk : ∀ w', SatL w' (own Blk b (.cells #[.pointer (some ⟨b, 0, none⟩), v] 121 (0, 0)) :: r) → k (.tuple #[]) w') : CALL Tryz.prog 115 #[.pointer (some ⟨b, 0, none⟩)] k w := by
  obtain ⟨j, hj, hjs⟩ := size_bld
  apply f115.call
  unfold f115.b
  refine NN_r (LD_r hw (x := p) rfl ?_)
  have hsh : w.shape? b = some (121, 2) := by have := hw.get; simp [World.shape?, this]
  rcases hp with rfl | rfl
  · refine brT rfl ⟨_, w, Lib.run_to_unsafe (e := 121) (cells := 2) w ⟨b, 0, none⟩ (by kernel_rfl) (by kernel_rfl) hj (by omega) hsh (by simp), some ⟨b, 0, none⟩, rfl, noEsc_c ⟨_, rfl, ?_⟩⟩
    refine ⟨_, w, Lib.run_from_unsafe (e := 121) (cells := 2) w ⟨b, 0, none⟩ (by kernel_rfl) (by kernel_rfl) hj hsh (by kernel_rfl), some ⟨b, 0, none⟩, rfl, NN_r ?_⟩
    simp only [Addr.add_mk]
    exact ST_r hw (by simp) rfl fun w h => hk _ (by simpa using h)
  · refine brF rfl (NN_r (LD_r hw (x := some ⟨b, 0, none⟩) rfl ?_))
    exact ⟨rfl, brF (by simp) (hk _ hw)⟩
theorem writeByte_c {c : UInt8} (hw : SatL w l) [f : FindO l Bld b bs r] (hl : bs.length < 70368744177664) (hk : ∀ w', SatL w' (own Bld b (bs ++ [c]) :: r) → k .nilIface w') :
    CALL Tryz.prog 90 #[.pointer (some ⟨b, 0, none⟩), .int .u8 (c.toNat : Int)] k w := by
  obtain ⟨p, s, hp, hs, h⟩ := Bld.out (hw.find (A := Bld) b)
  have hn : bs.length = s.2.1 := by
    have := Row.len (h.drop)
    rw [bc_len] at this; omega
  apply f90.call
  unfold f90.b
  refine copyCheck_c h hp fun w h => ⟨rfl, NN_r (LD_r h (x := s) rfl (AL_r h fun q w h => ?_))⟩
  have hnew : cellsOfS w (some ⟨q, 0, none⟩, 1, 1) (1 * 1) = some [.int .u8 (c.toNat : Int)] := by
    show cellsAt w ⟨q, 0, none⟩ 0 1 = _
    rw [cellsAt_r h.get (by simp)]
    simp
  refine APP_r (s := s) (cs := bc bs) h (by simp) hnew rfl (by simp [Value.oneCell']) (by omega) (by omega) fun s' w hs' h => NN_r ?_
  simp only [Addr.add_mk]
  refine ST_r (b := b) h (by simp) rfl fun w h => hk _ ?_
  have h2 : SatL w (own Blk b (.cells #[.pointer (some ⟨b, 0, none⟩), slv s'] 121 (0, 0)) :: own (Row 1 5) s' (bc (bs ++ [c])) :: r) := by
    have e : bc (bs ++ [c]) = bc bs ++ [.int .u8 (c.toNat : Int)] := by simp [bc]
    rw [e]
    exact SatL.sub (by simpa using h)
  refine Bld.mk h2 (.inr rfl) (.inr ?_)
  rcases Row.out h2.drop with ⟨rfl, _⟩ | ⟨b', n, c', sp, rfl, g1, g2, g3, _⟩
  · simp at hs'
  · simp only at hs' g3 ⊢; omega
theorem bldLen_c (hw : SatL w l) [f : FindO l Bld b bs r] (hk : k (.int .i64 (bs.length : Nat)) w) : CALL Tryz.prog 89 #[.pointer (some ⟨b, 0, none⟩)] k w := by
  obtain ⟨p, s, hp, hs, h⟩ := Bld.out (hw.find (A := Bld) b)
  have hn : bs.length = s.2.1 := by
    have := Row.len (h.drop)
    rw [bc_len] at this; omega
  apply f89.call
  unfold f89.b
  refine NN_r (LD_r h (x := s) rfl ?_)
  rw [← hn]; exact hk
theorem bldString_c (hw : SatL w l) [f : FindO l Bld b bs r] (hl : bs.length < 70368744177664) (hk : ∀ w', SatL w' r → k (.string (St bs)) w') : CALL Tryz.prog 91 #[.pointer (some ⟨b, 0, none⟩)] k w := by
  obtain ⟨p, s, hp, hs, h⟩ := Bld.out (hw.find (A := Bld) b)
  have hn : bs.length = s.2.1 := by
    have := Row.len (h.drop)
    rw [bc_len] at this; omega
  apply f91.call
  unfold f91.b
  refine DRC_r h fun w h => NN_r (STL_r (x := s) rfl (NN_r (STL_r (x := s) rfl ⟨_, fun _ _ => ⟨rfl, rfl⟩, ?_⟩)))
  rcases Row.out h.drop with ⟨rfl, h0, _⟩ | ⟨g, n, c, sp, rfl, g1, g2, g3, g4⟩
  · have hb : bs = [] := by simp [bc] at h0; exact h0
    subst hb
    refine ⟨.pointer none, w, rfl, none, rfl, h, .string .empty, w, Lib.run_unsafeString_none _ _ _ _ _, ByteArray.empty, rfl, ?_⟩
    exact hk _ h.drop.drop
  · have hc : c ≠ 0 := by
      rcases hs with h | h
      · cases h
      · exact h
    simp only at hn
    subst hn
    have hg : w.heap[g]? = some (.cells (bc bs ++ sp).toArray 5 (0, 0)) := g4.get
    by_cases h0 : bs = []
    · subst h0
      refine ⟨.pointer (some ⟨g, 0, none⟩), w, ?_, some ⟨g, 0, none⟩, rfl, h, .string .empty, w, Lib.run_unsafeString_none _ _ _ _ _, ByteArray.empty, rfl, hk _ h.drop.drop⟩
      exact Lib.run_unsafeSliceData_row w _ _ _ _ _ hc
    · refine ⟨.pointer (some ⟨g, 0, none⟩), w, ?_, some ⟨g, 0, none⟩, rfl, h, .string ⟨bs.toArray⟩, _, Lib.run_unsafeString_row (e := 5) w _ _ _ (by kernel_rfl) (by kernel_rfl) g (bc bs ++ sp).length (by simp [World.shape?, hg]) bs h0 (by simp [bc]) (by omega) ?_, St bs, rfl, hk _ ?_⟩
      · exact Lib.run_unsafeSliceData_row w _ _ _ _ _ hc
      · intro j x hj
        rw [Addr.add_mk, Nat.zero_add, cell_of hg, List.getElem?_toArray, List.getElem?_append_left (by rw [bc_len]; exact (List.getElem?_eq_some_iff.1 hj).1)]
        simp [bc, hj]
      · have h5 := (g4.put (.cells (bc bs ++ sp).toArray 5 (0, bs.length))).drop
        have e : w.freeze ⟨g, 0, none⟩ bs.length = w.putObj g (.cells (bc bs ++ sp).toArray 5 (0, bs.length)) := by
          have hl0 : bs.length ≠ 0 := by simpa using h0
          unfold World.freeze World.putObj
          rw [if_neg hl0]
          congr 1
          apply Array.ext_getElem?
          intro m
          by_cases hm : g = m
          · subst hm
            have hlt := (Array.getElem?_eq_some_iff.1 hg).1
            rw [Array.getElem?_modify, if_pos rfl, hg, Array.getElem?_setIfInBounds_self_of_lt hlt]
            simp
          · simp [Array.getElem?_modify, hm]
        rw [e]
        exact h5
end
end Go.Proofs.YtlefdgplobifiaaGreatDoor
