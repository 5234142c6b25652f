/- What the laws' rows have in common: true is answered, nothing below has turned. -/
import Derived.Test.YtlefdgplobifiaaGreatDoorRows
import Derived.Test.YtlefdgplobifiaaGreatDoorKit
import Derived.ProofKit
set_option linter.unusedVariables false
namespace Go.Proofs.YtlefdgplobifiaaGreatDoor
open Go.ChangeShapes Go.WideShapes Go.ChangeAt Go.RowKit
theorem Tryz.own : ownKnob Tryz.prog.godebug = none := by kernel_rfl
theorem Tryz.laidOut : laidOutB Tryz.prog = true := by kernel_rfl
theorem CALL.calls {P : Program} {g : FuncId} {args : Array Value} {k : Value → World → Prop} {w : World} (hc : ∀ args w, (callFunc g args).run P w = .ok (.enter g args) w) (h : CALL P g args k w) : Calls P g args w (fun e w' => ∃ v, e = .returned v ∧ k v w') := by
  obtain ⟨⟨_, h3⟩ | ⟨v, w', h3, _⟩⟩ := h
  · exact h3
  · rw [hc] at h3; cases h3
section
variable {H : Type} {enc : TypeId × Value → H} {P : Program}
theorem below_trodAll (hl : laidOutB P = true) {W W' : World} (hb : Below W.heap.size W W') : ∀ {ts : List TypeId} {vs : List Value} {ds : List (DataW H)} {ps : List MemPlace}, (∀ t ∈ ts, P.readableRec t = true ∧ t < P.types.size) →
    DataW.TrodAll enc P W 0 (fun _ => true) true ts vs ds ps → (∀ x ∈ ps, x.block < W.heap.size) → DataW.TrodAll enc P W' 0 (fun b => decide (b < W.heap.size)) true ts vs ds ps
  | [], [], [], _, _, h, _ => h
  | [], _ :: _, _, _, _, h, _ => h.elim
  | [], [], _ :: _, _, _, h, _ => h.elim
  | _ :: _, [], _, _, _, h, _ => h.elim
  | _ :: _, _ :: _, [], _, _, h, _ => h.elim
  | t :: ts, v :: vs, d :: ds, ps, ht, h, hlt => by
    obtain ⟨p, q, h1, h2, rfl⟩ := h
    have h3 := ht t (by simp)
    exact ⟨p, q, Below.trod hl h3.1 h3.2 h1 hb (fun x hx => hlt x (by simp [hx])), below_trodAll hl hb (fun t' ht' => ht t' (by simp [ht'])) h2 (fun x hx => hlt x (by simp [hx])), rfl⟩
/-- A law's last step. -/
theorem law_post {f : Func} {s : ChangeSpec} {W W' : World} {args : Array Value} {ds gs : List (DataW H)} {ps : List MemPlace} {b : TypeId} (hl : laidOutB P = true) (hv : s.vars = []) (hf : f.resultTypes = #[b]) (hbt : P.underlying b = some .bool)
    (hts : ∀ t ∈ f.params.toList, P.readableRec t = true ∧ t < P.types.size) (hW : DataW.Whole enc P f.params.toList s.vars false W args.toList ds gs ps)
    (hs : s.fn H (ds ++ gs) = { results := [.lit (.bool true)], args := ds }) (hb : Below W.heap.size W W') : s.post enc P f false true false false W args (.bool true) W' := by
  have hlt : ∀ p ∈ ps, p.block < W.heap.size := fun p hp => hW.lt p hp
  have hW0 := hW
  obtain ⟨p, q, hA, hV, rfl, hz, hn⟩ := hW
  have hsz : (Value.bool true).resultList f.resultTypes.size = [.bool true] := by rw [hf]; rfl
  rw [hv] at hV
  obtain ⟨rfl, rfl⟩ := trodVars_none hV
  refine ⟨ds, [], p ++ [], [], p, [], hW0, ?_, ?_, ?_, hb.frame _, fun h => by cases h⟩
  · rw [hs, hsz, hf]
    exact trodAll_mk1 ⟨1, by simp [DataW.trod, hbt, Value.cells]⟩
  · rw [hs]
    exact below_trodAll hl hb hts hA fun x hx => hlt x (by simp [hx])
  · rw [hs, hv]; exact rfl
end
end Go.Proofs.YtlefdgplobifiaaGreatDoor
