/- Heaplets, separating lists of chunks over the model's memory, and the search for a chunk. Nothing of a program stands here. -/
import Derived.RangeFuncFrom
import Derived.RangeFuncCalls
import Derived.OrdersIn
import Derived.TacticsIn
import Derived.KernelRfl
import Derived.ProofKit
namespace Go.Proofs.YtlefdgplobifiaaGreatDoor

/-- The streams, the tape, the world outside: what no step of these programs turns. -/
abbrev Env := Os × (Nat → Question → Nat) × Array (Nat × ByteArray)

structure HL where
  blk : Nat → Option Obj
  env : Option Env

theorem HL.eq {a b : HL} (h : ∀ n, a.blk n = b.blk n) (e : a.env = b.env) : a = b := by
  cases a; cases b; simp only [HL.mk.injEq]; exact ⟨funext h, e⟩

def HL.disj (a b : HL) : Prop := (∀ n, a.blk n = none ∨ b.blk n = none) ∧ (a.env = none ∨ b.env = none)
def HL.un (a b : HL) : HL := ⟨fun n => (a.blk n).or (b.blk n), a.env.or b.env⟩

theorem HL.disj.symm {a b : HL} (h : a.disj b) : b.disj a := ⟨fun n => (h.1 n).symm, h.2.symm⟩
theorem or_comm_of {α : Type} {x y : Option α} (h : x = none ∨ y = none) : x.or y = y.or x := by
  rcases h with rfl | rfl
  · cases y <;> rfl
  · cases x <;> rfl
theorem or_none_iff {α : Type} {x y : Option α} : x.or y = none ↔ x = none ∧ y = none := by cases x <;> cases y <;> simp
theorem HL.un_comm {a b : HL} (h : a.disj b) : a.un b = b.un a := HL.eq (fun n => or_comm_of (h.1 n)) (or_comm_of h.2)
theorem HL.un_assoc (a b c : HL) : (a.un b).un c = a.un (b.un c) :=
  HL.eq (fun n => by simp only [HL.un]; cases a.blk n <;> simp) (by simp only [HL.un]; cases a.env <;> simp)
theorem HL.disj_un {a b c : HL} : a.disj (b.un c) ↔ a.disj b ∧ a.disj c := by
  constructor
  · intro h
    refine ⟨⟨fun n => ?_, ?_⟩, ⟨fun n => ?_, ?_⟩⟩
    · rcases h.1 n with h | h
      · exact .inl h
      · exact .inr (or_none_iff.1 h).1
    · rcases h.2 with h | h
      · exact .inl h
      · exact .inr (or_none_iff.1 h).1
    · rcases h.1 n with h | h
      · exact .inl h
      · exact .inr (or_none_iff.1 h).2
    · rcases h.2 with h | h
      · exact .inl h
      · exact .inr (or_none_iff.1 h).2
  · rintro ⟨h, k⟩
    refine ⟨fun n => ?_, ?_⟩
    · rcases h.1 n with h | h
      · exact .inl h
      · rcases k.1 n with k | k
        · exact .inl k
        · exact .inr (or_none_iff.2 ⟨h, k⟩)
    · rcases h.2 with h | h
      · exact .inl h
      · rcases k.2 with k | k
        · exact .inl k
        · exact .inr (or_none_iff.2 ⟨h, k⟩)
theorem HL.un_disj {a b c : HL} : (a.un b).disj c ↔ a.disj c ∧ b.disj c :=
  ⟨fun h => let ⟨x, y⟩ := disj_un.1 h.symm; ⟨x.symm, y.symm⟩, fun h => (disj_un.2 ⟨h.1.symm, h.2.symm⟩).symm⟩

abbrev HProp := HL → Prop

def sepL : List HProp → HProp
  | [] => fun _ => True
  | A :: l => fun h => ∃ a b, HL.disj a b ∧ h = a.un b ∧ A a ∧ sepL l b

/-- More memory does no harm. -/
theorem sepL_more {l : List HProp} : ∀ {a b : HL}, a.disj b → sepL l b → sepL l (a.un b) := by
  induction l with
  | nil => intros; trivial
  | cons A l ih =>
    rintro a b hd ⟨x, y, hxy, rfl, hA, hl⟩
    obtain ⟨hax, hay⟩ := HL.disj_un.1 hd
    refine ⟨x, a.un y, HL.disj_un.2 ⟨hax.symm, hxy⟩, ?_, hA, ih hay hl⟩
    rw [← HL.un_assoc, HL.un_comm hax, HL.un_assoc]

theorem sepL_swap {A B : HProp} {l : List HProp} {h : HL} (H : sepL (A :: B :: l) h) : sepL (B :: A :: l) h := by
  obtain ⟨a, c, hac, rfl, hA, b, d, hbd, rfl, hB, hl⟩ := H
  obtain ⟨hab, had⟩ := HL.disj_un.1 hac
  refine ⟨b, a.un d, HL.disj_un.2 ⟨hab.symm, hbd⟩, ?_, hB, a, d, had, rfl, hA, hl⟩
  rw [← HL.un_assoc, HL.un_comm hab, HL.un_assoc]

theorem sepL_perm {l l' : List HProp} (p : l.Perm l') : ∀ {h : HL}, sepL l h → sepL l' h := by
  induction p with
  | nil => intro h H; exact H
  | cons A _ ih => rintro h ⟨a, b, hd, rfl, hA, hl⟩; exact ⟨a, b, hd, rfl, hA, ih hl⟩
  | swap A B l => intro h H; exact sepL_swap H
  | trans _ _ ih1 ih2 => intro h H; exact ih2 (ih1 H)

theorem sepL_append {l l' : List HProp} : ∀ {h : HL}, sepL (l ++ l') h ↔ ∃ a b, HL.disj a b ∧ h = a.un b ∧ sepL l a ∧ sepL l' b := by
  induction l with
  | nil =>
    intro h
    constructor
    · intro H
      exact ⟨⟨fun _ => none, none⟩, h, ⟨fun _ => .inl rfl, .inl rfl⟩, HL.eq (fun n => by simp [HL.un]) (by simp [HL.un]), trivial, H⟩
    · rintro ⟨a, b, hd, rfl, _, H⟩; exact sepL_more hd H
  | cons A l ih =>
    intro h
    constructor
    · rintro ⟨a, b, hd, rfl, hA, H⟩
      obtain ⟨c, d, hcd, rfl, hl, hl'⟩ := ih.1 H
      obtain ⟨hac, had⟩ := HL.disj_un.1 hd
      exact ⟨a.un c, d, HL.un_disj.2 ⟨had, hcd⟩, (HL.un_assoc _ _ _).symm, ⟨a, c, hac, rfl, hA, hl⟩, hl'⟩
    · rintro ⟨a, b, hd, rfl, ⟨c, d, hcd, rfl, hA, hl⟩, hl'⟩
      obtain ⟨hcb, hdb⟩ := HL.un_disj.1 hd
      exact ⟨c, d.un b, HL.disj_un.2 ⟨hcd, hcb⟩, HL.un_assoc _ _ _, hA, ih.2 ⟨d, b, hdb, rfl, hl, hl'⟩⟩

theorem sepL_mono {A B : HProp} {l : List HProp} {h : HL} (hab : ∀ x, A x → B x) (H : sepL (A :: l) h) : sepL (B :: l) h := by
  obtain ⟨a, b, hd, rfl, hA, hl⟩ := H; exact ⟨a, b, hd, rfl, hab _ hA, hl⟩

def HL.of (w : World) : HL := ⟨fun n => w.heap[n]?, some (w.os, w.tape, w.output)⟩

/-- In world w lie, apart from each other, the chunks of l. -/
def SatL (w : World) (l : List HProp) : Prop := sepL l (HL.of w)

/-- A chunk of kind A at place a, of content x. -/
def own {κ σ : Type} (A : κ → σ → HProp) (a : κ) (x : σ) : HProp := A a x

/-- One block of memory. -/
def Blk (b : Nat) (o : Obj) : HProp := fun h => h = ⟨fun n => if n = b then some o else none, none⟩

section
variable {w : World} {l l' r : List HProp} {A B : HProp} {b : Nat} {o o' : Obj}

theorem SatL.perm (h : SatL w l) (p : l.Perm l') : SatL w l' := sepL_perm p h
theorem SatL.mono (h : SatL w (A :: l)) (hab : ∀ x, A x → B x) : SatL w (B :: l) := sepL_mono hab h
theorem SatL.drop (h : SatL w (A :: l)) : SatL w l := by
  obtain ⟨a, b, hd, e, _, H⟩ := h
  show sepL l (HL.of w)
  rw [e]
  exact sepL_more hd H
theorem SatL.swap (h : SatL w (A :: B :: l)) : SatL w (B :: A :: l) := sepL_swap h
theorem SatL.drops (h : SatL w (l ++ l')) : SatL w l' := by
  obtain ⟨a, b, hd, e, _, H⟩ := sepL_append.1 h
  show sepL l' (HL.of w)
  rw [e]
  exact sepL_more hd H
/-- A compound chunk falls into its parts. -/
theorem SatL.open {ι : Type} {p : ι → Prop} {L : ι → List HProp} (h : SatL w (A :: l)) (hA : ∀ x, A x → ∃ i, p i ∧ sepL (L i) x) : ∃ i, p i ∧ SatL w (L i ++ l) := by
  obtain ⟨a, b, hd, e, ha, H⟩ := h
  obtain ⟨i, hp, hL⟩ := hA _ ha
  exact ⟨i, hp, sepL_append.2 ⟨a, b, hd, e, hL, H⟩⟩
theorem SatL.shut {L : List HProp} (h : SatL w (L ++ l)) (hA : ∀ x, sepL L x → A x) : SatL w (A :: l) := by
  obtain ⟨a, b, hd, e, ha, H⟩ := sepL_append.1 h
  exact ⟨a, b, hd, e, hA _ ha, H⟩

theorem SatL.get (h : SatL w (own Blk b o :: r)) : w.heap[b]? = some o := by
  obtain ⟨x, y, hd, e, hx, _⟩ := h
  have e1 := congrArg (fun z : HL => z.blk b) e
  rw [show x = _ from hx] at e1
  simpa [HL.of, HL.un] using e1

theorem SatL.lt (h : SatL w (own Blk b o :: r)) : b < w.heap.size := (Array.getElem?_eq_some_iff.1 h.get).1

theorem HL.of_putObj {w : World} {b : Nat} {o : Obj} (hb : b < w.heap.size) : HL.of (w.putObj b o) = ⟨fun n => if n = b then some o else w.heap[n]?, some (w.os, w.tape, w.output)⟩ := by
  refine HL.eq (fun n => ?_) rfl
  by_cases h : n = b
  · subst h; simp [HL.of, World.putObj_heap_same hb]
  · simp [HL.of, h, World.putObj_heap_other h]

theorem SatL.put (o' : Obj) (h : SatL w (own Blk b o :: r)) : SatL (w.putObj b o') (own Blk b o' :: r) := by
  have hlt := h.lt
  obtain ⟨x, y, hd, e, hx, hr⟩ := h
  have hx : x = ⟨fun n => if n = b then some o else none, none⟩ := hx
  subst hx
  have hyb : y.blk b = none := by
    rcases hd.1 b with h | h
    · simp at h
    · exact h
  refine ⟨⟨fun n => if n = b then some o' else none, none⟩, y, ⟨fun n => ?_, .inl rfl⟩, ?_, rfl, hr⟩
  · by_cases hn : n = b
    · exact .inr (hn ▸ hyb)
    · exact .inl (by simp [hn])
  · rw [HL.of_putObj hlt]
    refine HL.eq (fun n => ?_) ?_
    · have e1 := congrArg (fun z : HL => z.blk n) e
      by_cases hn : n = b
      · simp [HL.un, hn]
      · simp [HL.of, HL.un, hn] at e1 ⊢; exact e1
    · have e1 := congrArg (fun z : HL => z.env) e
      simpa [HL.of, HL.un] using e1

theorem SatL.alloc (o : Obj) (h : SatL w r) : SatL (w.alloc o) (own Blk w.heap.size o :: r) := by
  refine ⟨⟨fun n => if n = w.heap.size then some o else none, none⟩, HL.of w, ⟨fun n => ?_, .inl rfl⟩, ?_, rfl, h⟩
  · by_cases hn : n = w.heap.size
    · right; subst hn; simp [HL.of]
    · left; simp [hn]
  · refine HL.eq (fun n => ?_) rfl
    show (w.heap.push o)[n]? = (if n = w.heap.size then some o else none).or w.heap[n]?
    by_cases hn : n = w.heap.size
    · subst hn; simp
    · simp [hn, Array.getElem?_push]

theorem SatL.drew (h : SatL w r) : SatL w.drew r := h

theorem SatL.ne {b' : Nat} (h : SatL w (own Blk b o :: own Blk b' o' :: r)) : b ≠ b' := by
  obtain ⟨x, y, hd, e, hx, u, v, huv, hy, hu, _⟩ := h
  intro hbb
  have hx : x = _ := hx
  have hu : u = _ := hu
  rcases hd.1 b with h | h
  · rw [hx] at h; simp at h
  · rw [hy, hu] at h; simp [HL.un, hbb] at h
end

/-- The search for a chunk of kind A at place a. -/
class FindO {κ σ : Type} (l : List HProp) (A : κ → σ → HProp) (a : κ) (x : outParam σ) (r : outParam (List HProp)) : Prop where
  perm : l.Perm (own A a x :: r)
instance (priority := 2000) FindO.here {κ σ : Type} (A : κ → σ → HProp) (a : κ) (x : σ) (l : List HProp) : FindO (own A a x :: l) A a x l := ⟨.refl _⟩
instance FindO.there {κ σ : Type} (A : κ → σ → HProp) (a : κ) (x : σ) (B : HProp) (l r : List HProp) [h : FindO l A a x r] : FindO (B :: l) A a x (B :: r) :=
  ⟨(List.Perm.cons B h.perm).trans (.swap ..)⟩
theorem SatL.find {κ σ : Type} {w : World} {l r : List HProp} {A : κ → σ → HProp} (a : κ) {x : σ} (h : SatL w l) [f : FindO l A a x r] : SatL w (own A a x :: r) := h.perm f.perm

/-! The whole of a world as a chunk: what lay when a call began lies as it lay. -/
def All (W : World) : HProp := fun h => h = HL.of W
theorem SatL.all (W : World) : SatL W [All W] :=
  ⟨HL.of W, ⟨fun _ => none, none⟩, ⟨fun _ => .inr rfl, .inr rfl⟩, HL.eq (fun n => by simp [HL.un]) (by simp [HL.un]), rfl, trivial⟩
theorem SatL.of_all {W w' : World} {r : List HProp} (h : SatL w' (All W :: r)) :
    w'.os = W.os ∧ w'.tape = W.tape ∧ w'.output = W.output ∧ ∀ (n : Nat) (o : Obj), W.heap[n]? = some o → w'.heap[n]? = some o := by
  obtain ⟨x, y, hd, e, hx, _⟩ := h
  have hx : x = HL.of W := hx
  subst hx
  have e1 := congrArg HL.env e
  simp [HL.of, HL.un] at e1
  refine ⟨e1.1, e1.2.1, e1.2.2, fun n o ho => ?_⟩
  have e2 := congrArg (fun z : HL => z.blk n) e
  simpa [HL.of, HL.un, ho] using e2
theorem SatL.below {W w' : World} {r : List HProp} (h : SatL w' (All W :: r)) : Go.RowKit.Below W.heap.size W w' := by
  obtain ⟨h1, h2, h3, h4⟩ := h.of_all
  have hblk : ∀ k, k < W.heap.size → w'.heap[k]? = W.heap[k]? := fun k hk => by
    have := h4 k _ (Array.getElem?_eq_getElem hk)
    rw [this, Array.getElem?_eq_getElem hk]
  refine ⟨h1, h2, h3, ?_, hblk⟩
  rcases Nat.eq_zero_or_pos W.heap.size with h0 | h0
  · omega
  · have h5 := h4 (W.heap.size - 1) _ (Array.getElem?_eq_getElem (by omega))
    have h6 := (Array.getElem?_eq_some_iff.1 h5).1
    omega
/-- One block taken out of the whole (to be read alone: behind it the rest is the whole without that block). -/
def AllBut (W : World) (p : Nat → Bool) : HProp := fun h => h = ⟨fun n => if p n then none else W.heap[n]?, some (W.os, W.tape, W.output)⟩

end Go.Proofs.YtlefdgplobifiaaGreatDoor
