/- slices.Sorted(maps.Keys(m)) at maps of numbers, by the kit's contracts. -/
import Derived.Test.YtnaeabcaennbjaaLay
import Derived.Test.YtnaeabcaennbjaaPls
set_option linter.unusedVariables false
namespace Go.Proofs.Ytnaeabcaennbjaa
open Go Go.Maps Go.RowKit
abbrev R0 {H : Type} : Value → Option (DataW H × List MemPlace) := fun _ => some (.nil, [])
theorem sortsA (m : Nat) : AnyZI.SortsIn Try.prog Try.sortedA_ren Fence.wide m :=
  ⟨fun blk off cap ss W hH hblk hsz => callsIn_wide.2 (AnyM.slices_Sort_int Try.sortA blk off cap ss W hH hblk hsz),
   fun p cap W => callsIn_wide.2 (AnyM.slices_Sort_int_none Try.sortA p cap W)⟩
theorem insert_perm {H : Type} (x : Lit × DataW H) : ∀ l : List (Lit × DataW H), (DataW.insert x l).Perm (x :: l)
  | [] => .refl _
  | y :: r => by
    unfold DataW.insert
    split
    · exact .refl _
    · exact ((insert_perm x r).cons y).trans (.swap ..)
theorem foldr_perm {H : Type} : ∀ l : List (Lit × DataW H), (l.foldr DataW.insert []).Perm l
  | [] => .refl _
  | x :: l => (insert_perm x _).trans ((foldr_perm l).cons x)
theorem wf_inI {n : Int} (h : inI n) : (Lit.int .i64 n).wf = true := by
  unfold inI at h
  have e1 : IntKind.min .i64 = -9223372036854775808 := by decide
  have e2 : IntKind.max .i64 = 9223372036854775807 := by decide
  simp [Lit.wf, e1, e2]
  omega
theorem rg_key {H : Type} {p : Int × Int} {e : MapEntry} (hp : inI p.1) (he : encE e = encP p) : WideElems.rd (H := H) Try.prog 3 R0 e = some (.int .i64 p.1, .nil) := by
  have hk : e.key = .int .i64 p.1 := congrArg Prod.fst he
  unfold WideElems.rd
  rw [hk, keyOf_int_mk Try.underlying3 (wf_inI hp)]
  rfl
theorem lk_mem {key : Int} : ∀ {ps : List (Int × Int)}, key ∈ ps.map (·.1) ↔ (lk ps key).isSome = true
  | [] => by simp [lk_nil]
  | p :: ps => by
    rw [lk_cons]
    by_cases h : p.1 = key
    · simp [h]
    · rw [if_neg h, ← lk_mem]
      simp only [List.map_cons, List.mem_cons]
      exact ⟨fun h2 => h2.resolve_left (fun e => h e.symm), .inr⟩
section
variable {w : World} {l r r2 : List HProp} {k : Value → World → Prop}
theorem nodup_len {l dom : List Int} (hn : l.Nodup) (hs : ∀ x ∈ l, x ∈ dom) : l.length ≤ dom.length := by
  induction l generalizing dom with
  | nil => simp
  | cons a l ih =>
    have ha := hs a List.mem_cons_self
    have hn := List.nodup_cons.1 hn
    have := ih (dom := dom.erase a) hn.2 fun x hx => (List.mem_erase_of_ne (by rintro rfl; exact hn.1 hx)).2 (hs x (List.mem_cons_of_mem _ hx))
    rw [List.length_erase_of_mem ha] at this
    have : 0 < dom.length := List.length_pos_of_mem ha
    simp; omega
theorem Row.of_ownsRow {w' : World} {v : Value} {cs : List Value} {n : Nat} (h : SatL w l) (hb : Below w.heap.size w w') (hr : w'.ownsRow w.heap.size 3 1 v n cs) : ∃ s, v = slv s ∧ s.2.1 = n ∧ SatL w' (own (Row 1 3) s cs :: l) := by
  obtain ⟨hl, ⟨rfl, rfl⟩ | ⟨g, cap, cur, rfl, h1, h2, h3, h4, h5, h6⟩⟩ := hr
  · have : cs = [] := List.length_eq_zero_iff.1 (by simpa using hl)
    subst this
    exact ⟨(none, 0, 0), rfl, rfl, Row.nil (h.of_below hb)⟩
  · have h7 := h.of_below_blk hb h1 h2
    refine ⟨(some ⟨g, 0, none⟩, n, cap), rfl, rfl, ?_⟩
    have e : cur = (cs ++ cur.toList.drop (n * 1)).toArray := by
      rw [← h6, List.take_append_drop]
    rw [e] at h7
    refine Row.mk h7 hl ?_ h3
    rw [← h6, List.take_append_drop]
    simpa using h5
theorem sorted_c {q bm : Nat} {m : Int → Option Int} {dom : List Int} (hw : SatL w l) [f : FindO l Blk q (.cells #[.map (some bm)] 53 (0, 0)) r] [f2 : FindO r Mp bm m r2] (hdom : ∀ x, (m x).isSome → x ∈ dom) (hd : dom.length ≤ 100000000)
    (hk : ∀ (s : Sl) (ids : List Int) (w' : World), ids.Pairwise (· < ·) → (∀ x, x ∈ ids ↔ (m x).isSome) → SatL w' (own (Row 1 3) s (ids.map (Value.int .i64)) :: l) → k (slv s) w') :
    CALL Try.prog 28 #[.func (.func 39) #[] #[.pointer (some ⟨q, 0, none⟩)]] k w := by
  have h0 := hw.find (A := Blk) q
  obtain ⟨ps, es, clock, ⟨h1, h2, hst, hki⟩, h3, h4⟩ := Mp.out ((h0.drop).find (A := Mp) bm)
  have hlen : es.toList.length = ps.length := by have := congrArg List.length h1; simpa using this
  have hpl : ps.length ≤ dom.length := by
    have := nodup_len (l := ps.map (·.1)) (dom := dom) h2 fun x hx => hdom x (by rw [← h3]; exact lk_mem.1 hx)
    simpa using this
  have hrd : ∀ x ∈ es.toList, ∃ p ∈ ps, WideElems.rd (H := Unit) Try.prog 3 R0 x = some (.int .i64 p.1, .nil) := by
    intro x hx
    have h5 : encE x ∈ ps.map encP := h1 ▸ List.mem_map_of_mem hx
    obtain ⟨p, hp, he⟩ := List.mem_map.1 h5
    exact ⟨p, hp, rg_key (hki p hp) he.symm⟩
  obtain ⟨D0, hD0⟩ : ∃ D0 : DataW Unit, D0 = .map ((es.toList.map (WideElems.rg Try.prog 3 R0)).foldr DataW.insert []) := ⟨_, rfl⟩
  have hkeys : (intKeys D0).Perm (ps.map (·.1)) := by
    rw [hD0]
    refine ((foldr_perm _).map _).trans ?_
    rw [List.map_map]
    have e : es.toList.map ((fun p : Lit × DataW Unit => Go.intOf p.1) ∘ WideElems.rg Try.prog 3 R0) = ps.map (·.1) := by
      have e1 : es.toList.map ((fun p : Lit × DataW Unit => Go.intOf p.1) ∘ WideElems.rg Try.prog 3 R0) = (es.toList.map encE).map fun y => match y.1 with | .int _ n => n | _ => 0 := by
        rw [List.map_map]
        apply List.map_congr_left
        intro x hx
        have h5 : encE x ∈ ps.map encP := h1 ▸ List.mem_map_of_mem hx
        obtain ⟨p, hp, he⟩ := List.mem_map.1 h5
        have h6 := rg_key (H := Unit) (hki p hp) he.symm
        simp only [Function.comp, WideElems.rg, h6, Option.getD_some, Go.intOf, ← he, encP]
      rw [e1, h1, List.map_map]
      rfl
    rw [e]
  have hsize : Maps.size D0 = ps.length := by
    rw [hD0]
    show (List.foldr DataW.insert [] _).length = _
    rw [(foldr_perm _).length_eq, List.length_map, hlen]
  have hown : w.ownsMap Try.prog 3 (R0 (H := Unit)) bm ps.length D0 := by
    refine ⟨es, clock, h4.get, ⟨?_, hst, fun x hx => ?_⟩, ?_, hD0⟩
    · rw [← Array.length_toList, hlen]; unfold maxLen; omega
    · obtain ⟨p, _, h6⟩ := hrd x hx; exact ⟨_, h6⟩
    · rw [← Array.length_toList, hlen]; exact Nat.le_refl _
  have hseq : SeqGives Fence.wide 2 Try.prog 39 #[.pointer (some ⟨q, 0, none⟩)] encZ (fun ss => ss.Perm (intKeys D0)) (Maps.size D0) w :=
    AnyZI.keys_gives (ρ := Try.keysA_ren) { Try.keysA with } Fence.wide 2 trivial rfl (by omega) q bm ps.length D0 w h0.lt (by rw [cell_of h0.get]; rfl) hown
  have cS := AnyZI.sorted_in Try.sortedA Fence.wide 5 trivial trivial trivial trivial rfl (by omega) (sortsA _) (enters_of Try.func38 (by kernel_rfl) rfl) 39 #[.pointer (some ⟨q, 0, none⟩)] trivial (enters_of Try.func39 (by kernel_rfl) rfl) _ _ (by rw [hsize]; unfold maxLen; omega) (by rw [hsize]; omega) _ hseq
  change CallsIn _ _ Try.prog 28 _ _ _ at cS
  refine ⟨.inl ⟨Try.call28 _ _, ((callsIn_wide (n := 5)).1 cS).mono ?_⟩⟩
  rintro e w' ⟨v, ss, rfl, hS, hrow, _, hb⟩
  have hperm : ss.Perm (ps.map (·.1)) := hS.trans hkeys
  have hrow' : w'.ownsRow w.heap.size 3 1 v ss.length ((ss.mergeSort (fun x y => decide (x ≤ y))).map (Value.int .i64)) := hrow
  obtain ⟨s, rfl, _, hsat⟩ := Row.of_ownsRow hw hb hrow'
  refine ⟨_, rfl, hk s _ w' ?_ ?_ hsat⟩
  · have hp := List.pairwise_mergeSort (le := fun x y : Int => decide (x ≤ y)) (fun a b c h1 h2 => by simp at *; omega) (fun a b => by simp; omega) ss
    have hnd : (ss.mergeSort (fun x y => decide (x ≤ y))).Nodup := ((List.mergeSort_perm _ _).trans hperm).nodup_iff.2 h2
    refine (hp.and hnd).imp ?_
    rintro a b ⟨h5, h6⟩
    simp at h5
    omega
  · intro x
    rw [((List.mergeSort_perm ss _).trans hperm).mem_iff, lk_mem, h3]
end
end Go.Proofs.Ytnaeabcaennbjaa
