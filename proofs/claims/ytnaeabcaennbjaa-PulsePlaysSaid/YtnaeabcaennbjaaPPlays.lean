/- The law PulsePlays: what its Go function answers. -/
import Derived.Test.YtnaeabcaennbjaaPLaw
import Derived.Test.YtnaeabcaennbjaaOld
set_option linter.unusedVariables false
set_option linter.unusedSimpArgs false
namespace Go.Proofs.Ytnaeabcaennbjaa
open Go
section
variable {w : World} {l r r' : List HProp} {k : Value → World → Prop} {b : Nat} {s : PS} {now now' : Int} {c : Int × Int × Int} {cs : List Cn} {y : Cn}
theorem okO_len {out : List (Int × Int)} (ho : OkO c now cs out) : out.length ≤ cs.length := by
  have hnd : (out.map (·.1)).Nodup := ho.sorted.imp fun {a b} (h : a < b) e => by omega
  have h1 := nodup_len (l := out.map (·.1)) (dom := cs.map (·.id)) hnd fun x hx => by
    obtain ⟨y, hy, rfl⟩ := List.mem_map.1 hx
    obtain ⟨z, hz, h2, _⟩ := (ho.mem y.1 y.2).1 hy
    exact h2 ▸ List.mem_map_of_mem hz
  simpa using h1
theorem join_len {id : Int} : (joinC id now cs).length ≤ cs.length + 1 := by
  unfold joinC; simp; exact leave_sub.length_le
theorem reg_len {id : Int} : (regC id now cs).length = cs.length := by
  unfold regC; split <;> simp
theorem line_len {id : Int} : (lineC id now cs).length = cs.length := by
  unfold lineC; split
  · split <;> simp
  · rfl
theorem plays_c {W : World} {p g q : Int} {sl : Sl} {acts : List (List Int)} (hw : SatL w l) [f : FindO l Old W () r] (hin : SliceIn W 3 (fun x => x.map (Value.int .i64)) sl acts) (ha : ∀ x ∈ acts, x.length = 3 ∧ ∀ z ∈ x, inI z)
    (hk : ∀ w', SatL w' l → k (.bool true) w') : CALL Try.prog 4 #[.int .i64 p, .int .i64 g, .int .i64 q, slv sl] k w := by
  apply f4.call
  unfold f4.b
  refine awake_c hw fun w1 h1 => ⟨_, rfl, brF rfl ?_⟩
  have hlen := hin.1
  refine brD (fun _ => hk _ h1) fun h60 => brD (fun _ => hk _ h1) fun hp1 => brD (fun _ => hk _ h1) fun hg1 => brD (fun _ => hk _ h1) fun hq1 => brD (fun _ => hk _ h1) fun hp2 => brD (fun _ => hk _ h1) fun hg2 => brD (fun _ => hk _ h1) fun hq2 => ?_
  have hc : Cf (p, g, q) 0 := ⟨by simp only; omega, by simp only; omega, by simp only; omega, by decide⟩
  have h60 : acts.length ≤ 60 := by omega
  refine new_c (h1.find (A := Old) W) fun b w2 h2 => ⟨_, rfl, AL_r h2 fun b2 w3 h3 => ?_⟩
  have h3 := RP.mk (c := (p, g, q)) (cs := []) (s := (none, 0, 0)) (b := b2) (show SatL w3 (own Blk b2 (.cells #[.int .i64 p, .int .i64 g, .int .i64 q, slv (none, 0, 0)] 37 (0, 0)) :: own (Row 4 48) (none, 0, 0) [] :: own Pls b (newS p g q) :: own Old W () :: r) from (Row.nil (sz := 4) (t := 48) h3).sub)
  have r0 : Rel (p, g, q) (newS p g q) [] 0 := new_rel hc
  refine f4.L2_rule (fun now i w => ∃ (j : Nat) (s : PS) (cs : List Cn), i = j ∧ j ≤ acts.length ∧ cs.length ≤ j ∧ 0 ≤ now ∧ now ≤ (j : Int) * 1000000 ∧ Rel (p, g, q) s cs now ∧ SatL w (own Pls b s :: own RP b2 ((p, g, q), cs) :: own Old W () :: r)) (fun _ i _ => acts.length - i.toNat)
    ⟨0, _, [], rfl, Nat.zero_le _, Nat.le_refl _, Int.le_refl _, by simp, r0, h3.sub⟩ ?_
  rintro now i w ⟨j, s, cs, rfl, hj, hcs, hn0, hn1, hr, h⟩
  clear h1 h2 h3
  have hcf : Cf (p, g, q) now := hc.at hn0 (by omega)
  have hok := Pls.ok h
  have hsm := small_of hr hok (n := 100000) (by omega)
  unfold f4.L2
  refine brD (fun hlt => ?_) fun hge => ?_
  · have hjl : j < acts.length := by omega
    have hx := List.getElem?_eq_getElem hjl
    obtain ⟨hx3, hxi⟩ := ha acts[j] (List.getElem_mem hjl)
    obtain ⟨kd, id, n, hxe⟩ : ∃ kd id n, acts[j] = [kd, id, n] := by
      match acts[j], hx3 with
      | [kd, id, n], _ => exact ⟨kd, id, n, rfl⟩
    rw [hxe] at hx hxi
    have hid : inI id := hxi id (by simp)
    refine IX_in hin (by omega) (by rw [Int.toNat_natCast]; exact hx) fun a hcell => ?_
    refine LD_old h (hcell 0 _ rfl) (LD_old h (hcell 1 _ rfl) (LD_old h (hcell 2 _ rfl) ?_))
    refine AL_r h fun q19 w1 hw1 => ?_
    refine ST_r hw1 (by simp) rfl fun w2 hw2 => ST_r hw2 (by simp) rfl fun w3 hw3 => ST_r hw3 (by simp) rfl fun w4 hw4 => ?_
    simp only [List.setIfInBounds_toArray, List.set_cons_zero, List.set_cons_succ, Nat.reduceAdd, Nat.zero_add] at hw4
    clear hw1 hw2 hw3 h
    have hJ4 : ∀ (w : World) (now : Int) (s : PS) (cs : List Cn), Rel (p, g, q) s cs now → cs.length ≤ j + 1 → 0 ≤ now → now ≤ ((j + 1 : Nat) : Int) * 1000000 →
        SatL w (own Pls b s :: own RP b2 ((p, g, q), cs) :: own Blk q19 (.cells #[.int .i64 kd, .int .i64 id, .int .i64 n] 39 (0, 0)) :: own Old W () :: r) →
        f4.J4 sl (some ⟨b, 0, none⟩) (some ⟨b2, 0, none⟩) now (j : Int) q19 (f4.L2K sl (some ⟨b, 0, none⟩) (some ⟨b2, 0, none⟩) (fun now i w => ∃ (j : Nat) (s : PS) (cs : List Cn), i = j ∧ j ≤ acts.length ∧ cs.length ≤ j ∧ 0 ≤ now ∧ now ≤ (j : Int) * 1000000 ∧ Rel (p, g, q) s cs now ∧ SatL w (own Pls b s :: own RP b2 ((p, g, q), cs) :: own Old W () :: r)) (fun _ i _ => acts.length - i.toNat) (acts.length - (j : Int).toNat)) k w := by
      intro w now s cs hr hcl hn0 hn1 h
      have hJ3 : f4.J3 sl (some ⟨b, 0, none⟩) (some ⟨b2, 0, none⟩) now (j : Int) (f4.L2K sl (some ⟨b, 0, none⟩) (some ⟨b2, 0, none⟩) (fun now i w => ∃ (j : Nat) (s : PS) (cs : List Cn), i = j ∧ j ≤ acts.length ∧ cs.length ≤ j ∧ 0 ≤ now ∧ now ≤ (j : Int) * 1000000 ∧ Rel (p, g, q) s cs now ∧ SatL w (own Pls b s :: own RP b2 ((p, g, q), cs) :: own Old W () :: r)) (fun _ i _ => acts.length - i.toNat) (acts.length - (j : Int).toNat)) k w := by
        unfold f4.J3
        rw [show IntKind.wrap .i64 ((j : Int) + 1) = ((j + 1 : Nat) : Int) by rw [w64'] <;> omega]
        exact f4.L2_next ⟨j + 1, s, cs, rfl, hjl, hcl, hn0, hn1, hr, h.sub⟩ (by simp only [Int.toNat_natCast]; omega)
      unfold f4.J4
      refine LD_r h (x := id) rfl (idle_c h ⟨_, _, rfl, LD_r h (x := id) rfl (rat_c h (by omega) ⟨_, rfl, ?_⟩)⟩)
      have hl := hr.last id
      have hat := atC_fd (id := id) hr.nd
      cases he : atC id cs with
      | none =>
        rw [he] at hat
        rw [atI_none he]
        rw [hat] at hl
        simp only [Option.map_none] at hl
        rw [hl]
        exact brF (by simp) (brF rfl (brT rfl (brF (by simp) hJ3)))
      | some i =>
        rw [he] at hat
        obtain ⟨y, hy, hf⟩ := hat
        rw [atI_some he]
        rw [hf] at hl
        simp only [Option.map_some] at hl
        rw [hl]
        refine brF (by simp) (brT rfl ?_)
        obtain ⟨s5, h5⟩ := RP.out (h.find (A := RP) b2)
        refine NN_r (LD_r h5 (x := s5) rfl ?_)
        refine IX_enc 48 (i := (i : Int)) encC_len h5 (by omega) (by rw [Int.toNat_natCast]; exact hy) (by decide) fun b3 sp c2 _ _ h6 hj => ?_
        rw [Addr.add_mk]
        exact LD_get h6.get (hj 1 (by decide)) (brF (by simp) (brF rfl hJ3))
    have hw5 : SatL w4 (own Pls b s :: own RP b2 ((p, g, q), cs) :: own Blk q19 (.cells #[.int .i64 kd, .int .i64 id, .int .i64 n] 39 (0, 0)) :: own Old W () :: r) := hw4.sub
    clear hw4
    have hsame := hJ4 w4 now s cs hr (by omega) hn0 (by omega) hw5
    refine LD_r hw5 (x := kd) rfl (brE (fun _ => ?_) fun _ => brE (fun _ => ?_) fun _ => brE (fun _ => ?_) fun _ => brE (fun _ => ?_) fun _ => brE (fun _ => ?_) fun _ => ?_)
    · refine LD_r hw5 (x := id) rfl (register_c hw5 hsm hid fun w6 h6 => ⟨rfl, LD_r h6 (x := id) rfl (rreg_c h6 (by omega) fun w7 h7 => ⟨rfl, ?_⟩)⟩)
      exact hJ4 w7 now (s.register id now) (regC id now cs) (reg_rel hr hok hcf) (by rw [reg_len]; omega) hn0 (by omega) h7.sub
    · refine LD_r hw5 (x := id) rfl (line_c hw5 hsm hid fun w6 h6 => ⟨rfl, LD_r h6 (x := id) rfl (rline_c h6 (by omega) fun w7 h7 => ⟨rfl, ?_⟩)⟩)
      exact hJ4 w7 now (s.line id now) (lineC id now cs) (line_rel hr hok hcf) (by rw [line_len]; omega) hn0 (by omega) h7.sub
    · refine LD_r hw5 (x := id) rfl (leave_c hw5 hsm fun w6 h6 => ⟨rfl, LD_r h6 (x := id) rfl (rleave_c h6 (by omega) fun w7 h7 => ⟨rfl, ?_⟩)⟩)
      have hll : (leaveC id cs).length ≤ cs.length := leave_sub.length_le
      exact hJ4 w7 now (s.leave id) (leaveC id cs) (leave_rel hr) (by omega) hn0 (by omega) h7.sub
    · refine LD_r hw5 (x := n) rfl (brD (fun hn2 => LD_r hw5 (x := n) rfl (brD (fun hn3 => LD_r hw5 (x := n) rfl ?_) fun _ => hsame)) fun _ => hsame)
      rw [show IntKind.wrap .i64 (now + n) = now + n by rw [w64'] <;> omega]
      exact hJ4 w4 (now + n) s cs (hr.later (by omega)) (by omega) (by omega) (by omega) hw5
    · refine rdue_c hw5 (by omega) hr.nd ⟨hcf.c1.1, hcf.c1.2, hcf.c2.1, hcf.c2.2, hcf.c3.1, hcf.c3.2⟩ hcf.now hr.bd fun so out w6 ho h6 => ⟨_, rfl, ?_⟩
      have hol := okO_len ho
      refine same_rel h6 hr (Int.le_refl _) hcf (by omega) (by omega) ho fun w7 r7 h7 => ⟨_, rfl, brF rfl ?_⟩
      exact hJ4 w7 now _ _ r7 (by simp; omega) hn0 (by omega) h7.sub
    · refine LD_r hw5 (x := id) rfl (join_c hw5 hsm hid fun w6 h6 => ⟨rfl, LD_r h6 (x := id) rfl (rjoin_c h6 (by omega) fun w7 h7 => ⟨rfl, ?_⟩)⟩)
      have hjl2 := join_len (id := id) (now := now) (cs := cs)
      exact hJ4 w7 now (s.join id now) (joinC id now cs) (join_rel hr hok hcf) (by omega) hn0 (by omega) h7.sub
  · unfold f4.J1
    refine rdue_c h (by omega) hr.nd ⟨hcf.c1.1, hcf.c1.2, hcf.c2.1, hcf.c2.2, hcf.c3.1, hcf.c3.2⟩ hcf.now hr.bd fun so out w6 ho h6 => ⟨_, rfl, ?_⟩
    have hol := okO_len ho
    refine same_rel h6 hr (Int.le_refl _) hcf (by omega) (by omega) ho fun w7 r7 h7 => ⟨_, rfl, hk _ ?_⟩
    exact (h7.sub (l' := own Old W () :: r)).perm f.perm.symm
end
end Go.Proofs.Ytnaeabcaennbjaa
