/- Printed by gen2.py: the functions' bodies over the primitives of Den, in pieces. -/
import Derived.Test.YtnaeabcaennbjaaCut
import Derived.Test.YtnaeabcaennbjaaKit
namespace Go.Proofs.Ytnaeabcaennbjaa
open Go
set_option maxRecDepth 100000
set_option linter.unusedVariables false
/-! (*rollcall/pulse.Pulse).Due$1 -/
noncomputable def f25.body : Code := (Try.f25.body).getD .skip
def f25.b (v1 : Value) (k : Value → World → Prop) (w : World) : Prop :=
  k (.tuple #[]) w
theorem f25.den (v1 : Value) (k : Value → World → Prop) (w : World) : pc Try.prog none .none f25.body (retQ Try.prog [] k) (fun _ => undef) 2 [1] [v1] [] w = f25.b v1 k w := by kernel_rfl
theorem f25.okc {k : Value → World → Prop} : okC Try.prog none .none f25.body (retQ Try.prog [] k) :=
  Eq.mpr (by kernel_rfl : okC Try.prog none .none f25.body (retQ Try.prog [] k) = (True)) (trivial)
theorem f25.call {v1 : Value} {k : Value → World → Prop} {w : World} (h : f25.b v1 k w) : CALL Try.prog 25 #[v1] k w :=
  calls_of_pc Try.mixed Try.func25 (by kernel_rfl : Try.f25.body = some f25.body) (Try.call25 _ _) (by kernel_rfl : #[v1] ++ Array.replicate (Try.f25.ntmps - (#[v1] : Array Value).size) undef = (FR (fun _ => undef) 2 [1] [v1]).toArray) (by kernel_rfl : Try.f25.results.toList = []) f25.okc ((f25.den v1 k w).symm ▸ h)

/-! (*rollcall/timer.Table[int]).Due -/
noncomputable def f26.body : Code := (Try.f26.body).getD .skip
def f26.J1 (q21 : Nat) (k : Value → World → Prop) (w : World) : Prop :=
  k (.func (.func 36) #[] #[.pointer (some ⟨q21, 0, none⟩)]) w
def f26.J2 (p14 : Option Addr) (q15 : Nat) (n16 : Int) (k : Value → World → Prop) (w : World) : Prop :=
  NN p14 (fun a17 => LD slv (Addr.add a17 0) (fun l18 w => RQ (0 ≤ (n16 : Int) ∧ (n16 : Int) ≤ ((l18.2.2 : Nat) : Int)) (CALL Try.prog 35 #[slv (slSub l18 0 ((n16 : Int).toNat) 2)] (fun v19 w => ∃ l20 : Sl, v19 = slv l20 ∧ ST (Addr.add ⟨q15, 0, none⟩ 0) (slv l20) (fun w => f26.J1 q15 k w) w) w)) w)
def f26.J2p (k : Value → World → Prop) : Act → World → Prop := PJ 38 [37, 32, 31] fun us ds w => un us fun v us => asP v fun p14 => un us fun v us => asBox v fun q15 => un us fun v us => asI .i64 v fun n16 => nl us (dn ds (f26.J2 p14 q15 n16 k w))
def f26.J1p (k : Value → World → Prop) : Act → World → Prop := PJ 38 [32] fun us ds w => un us fun v us => asBox v fun q21 => nl us (dn ds (f26.J1 q21 k w))
def f26.Q1 (k : Value → World → Prop) : Exit → Act → World → Prop := (Exit.inBlock 0 (Exit.then (f26.J2p k) (Exit.then (f26.J1p k) (retQ Try.prog [.tmp 4] k))))
def f26.L3k (Kn1 : Option Addr → Int → Nat → Int → World → Prop) : Act → World → Prop := PJ 38 [37, 36, 32, 31] fun us ds w => un us fun v us => asP v fun p4 => un us fun v us => asI .i64 v fun n5 => un us fun v us => asBox v fun q6 => un us fun v us => asI .i64 v fun n7 => nl us (dn ds (Kn1 p4 n5 q6 n7 w))
def f26.Q2 (k : Value → World → Prop) : Exit → Act → World → Prop := (Exit.then (f26.J1p k) (retQ Try.prog [.tmp 4] k))
def f26.Q3 (k : Value → World → Prop) : Exit → Act → World → Prop := (retQ Try.prog [.tmp 4] k)
def f26.L3 (p4 : Option Addr) (n5 : Int) (q6 : Nat) (n7 : Int) (Kn1 : Option Addr → Int → Nat → Int → World → Prop) (k : Value → World → Prop) (w : World) : Prop :=
  NN p4 (fun a8 => LD slv (Addr.add a8 0) (fun l9 w => brK (decide (n7 < ((l9.2.1 : Nat) : Int))) (NN p4 (fun a10 => LD slv (Addr.add a10 0) (fun l11 w => IX l11 n7 2 (fun a12 => LD (Value.int .i64) (Addr.add a12 1) (fun n13 w => brK (decide (n13 ≤ n5)) (Kn1 p4 n5 q6 (IntKind.wrap .i64 (n7 + 1)) w) (f26.J2 p4 q6 n7 k w)) w)) w)) (f26.J2 p4 q6 n7 k w)) w)
def f26.L3lp (p4 : Option Addr) (n5 : Int) (q6 : Nat) (n7 : Int) (k : Value → World → Prop) (w : World) : Prop := ∀ D : Nat → Value, (Code.loop (codeAt f26.body [1, 1, 0, 1, 0, 1, 0, 0, 0])).wpIn (Wd none) 0 Try.prog (f26.Q1 k) (fr D 38 [37, 36, 32, 31] [.pointer p4, .int .i64 n5, .pointer (some ⟨q6, 0, none⟩), .int .i64 n7] []) w
def f26.L3p (k : Value → World → Prop) : Act → World → Prop := PJ 38 [37, 36, 32, 31] fun us ds w => un us fun v us => asP v fun p4 => un us fun v us => asI .i64 v fun n5 => un us fun v us => asBox v fun q6 => un us fun v us => asI .i64 v fun n7 => nl us (dn ds (f26.L3lp p4 n5 q6 n7 k w))
def f26.L3K (p4 : Option Addr) (n5 : Int) (q6 : Nat) (I : Int → World → Prop) (μ : Int → World → Nat) (m : Nat) (p4' : Option Addr) (n5' : Int) (q6' : Nat) (n7' : Int) (w : World) : Prop := (p4' = p4 ∧ n5' = n5 ∧ q6' = q6) ∧ I n7' w ∧ μ n7' w < m
theorem f26.J1_den (D : Nat → Value) (q21 : Nat) (k : Value → World → Prop) (w : World) : pc Try.prog none .none (codeAt f26.body [1, 1, 1]) (f26.Q3 k) D 38 [32] [.pointer (some ⟨q21, 0, none⟩)] [] w = f26.J1 q21 k w := by kernel_rfl
theorem f26.J1_okc {k : Value → World → Prop} : okC Try.prog none .none (codeAt f26.body [1, 1, 1]) (f26.Q3 k) :=
  Eq.mpr (by kernel_rfl : okC Try.prog none .none (codeAt f26.body [1, 1, 1]) (f26.Q3 k) = (True)) (trivial)
theorem f26.J1_ok {k : Value → World → Prop} : OKJ Try.prog none (f26.J1p k) (codeAt f26.body [1, 1, 1]) (f26.Q3 k) := by
  intro a w h
  obtain ⟨D, us, ds, rfl, h0⟩ := PJ_out h
  obtain ⟨v, us, rfl, h1⟩ := un_out h0
  obtain ⟨q21, rfl, h2⟩ := asBox_out h1
  obtain ⟨rfl, h3⟩ := nl_out h2
  obtain ⟨rfl, h4⟩ := dn_out h3
  rw [← f26.J1_den D q21 k w] at h4
  exact pc_wp Try.mixed f26.J1_okc h4
theorem f26.J2_den (D : Nat → Value) (p14 : Option Addr) (q15 : Nat) (n16 : Int) (k : Value → World → Prop) (w : World) : pc Try.prog none .none (codeAt f26.body [1, 1, 0, 1, 0, 1, 1]) (f26.Q2 k) D 38 [37, 32, 31] [.pointer p14, .pointer (some ⟨q15, 0, none⟩), .int .i64 n16] [] w = f26.J2 p14 q15 n16 k w := by kernel_rfl
theorem f26.J2_okc {k : Value → World → Prop} : okC Try.prog none .none (codeAt f26.body [1, 1, 0, 1, 0, 1, 1]) (f26.Q2 k) :=
  Eq.mpr (by kernel_rfl : okC Try.prog none .none (codeAt f26.body [1, 1, 0, 1, 0, 1, 1]) (f26.Q2 k) = (True)) (trivial)
theorem f26.J2_ok {k : Value → World → Prop} : OKJ Try.prog none (f26.J2p k) (codeAt f26.body [1, 1, 0, 1, 0, 1, 1]) (f26.Q2 k) := by
  intro a w h
  obtain ⟨D, us, ds, rfl, h0⟩ := PJ_out h
  obtain ⟨v, us, rfl, h1⟩ := un_out h0
  obtain ⟨p14, rfl, h2⟩ := asP_out h1
  obtain ⟨v, us, rfl, h3⟩ := un_out h2
  obtain ⟨q15, rfl, h4⟩ := asBox_out h3
  obtain ⟨v, us, rfl, h5⟩ := un_out h4
  obtain ⟨n16, rfl, h6⟩ := asI_out h5
  obtain ⟨rfl, h7⟩ := nl_out h6
  obtain ⟨rfl, h8⟩ := dn_out h7
  rw [← f26.J2_den D p14 q15 n16 k w] at h8
  exact pc_wp Try.mixed f26.J2_okc h8
theorem f26.L3_next {p4 : Option Addr} {n5 : Int} {q6 : Nat} {I : Int → World → Prop} {μ : Int → World → Nat} {m : Nat} {n7 : Int} {w : World} (hI : I n7 w) (hlt : μ n7 w < m) : f26.L3K p4 n5 q6 I μ m p4 n5 q6 n7 w := ⟨⟨rfl, rfl, rfl⟩, hI, hlt⟩
theorem f26.L3_den (D : Nat → Value) (p4 : Option Addr) (n5 : Int) (q6 : Nat) (n7 : Int) (Kn1 : Option Addr → Int → Nat → Int → World → Prop) (k : Value → World → Prop) (w : World) : pc Try.prog none .none (codeAt f26.body [1, 1, 0, 1, 0, 1, 0, 0, 0]) (Exit.then (f26.L3k Kn1) (f26.Q1 k)) D 38 [37, 36, 32, 31] [.pointer p4, .int .i64 n5, .pointer (some ⟨q6, 0, none⟩), .int .i64 n7] [] w = f26.L3 p4 n5 q6 n7 Kn1 k w := by kernel_rfl
theorem f26.L3_okc {Kn1 : Option Addr → Int → Nat → Int → World → Prop} {k : Value → World → Prop} : okC Try.prog none .none (codeAt f26.body [1, 1, 0, 1, 0, 1, 0, 0, 0]) (Exit.then (f26.L3k Kn1) (f26.Q1 k)) :=
  Eq.mpr (by kernel_rfl : okC Try.prog none .none (codeAt f26.body [1, 1, 0, 1, 0, 1, 0, 0, 0]) (Exit.then (f26.L3k Kn1) (f26.Q1 k)) = (True)) (trivial)
theorem f26.L3_ok {k : Value → World → Prop} : OKJ Try.prog none (f26.L3p k) (codeAt f26.body [1, 1, 0, 1, 0, 1, 0, 0]) (f26.Q1 k) := by
  intro a w h
  obtain ⟨D, us, ds, rfl, h0⟩ := PJ_out h
  obtain ⟨v, us, rfl, h1⟩ := un_out h0
  obtain ⟨p4, rfl, h2⟩ := asP_out h1
  obtain ⟨v, us, rfl, h3⟩ := un_out h2
  obtain ⟨n5, rfl, h4⟩ := asI_out h3
  obtain ⟨v, us, rfl, h5⟩ := un_out h4
  obtain ⟨q6, rfl, h6⟩ := asBox_out h5
  obtain ⟨v, us, rfl, h7⟩ := un_out h6
  obtain ⟨n7, rfl, h8⟩ := asI_out h7
  obtain ⟨rfl, h9⟩ := nl_out h8
  obtain ⟨rfl, h10⟩ := dn_out h9
  rw [show (codeAt f26.body [1, 1, 0, 1, 0, 1, 0, 0]) = Code.loop (codeAt f26.body [1, 1, 0, 1, 0, 1, 0, 0, 0]) by kernel_rfl]
  exact h10 D
theorem f26.L3_rule {p4 : Option Addr} {n5 : Int} {q6 : Nat} {k : Value → World → Prop} (I : Int → World → Prop) (μ : Int → World → Nat) {n7 : Int} {w : World} (h0 : I n7 w)
    (hr : ∀ (n7 : Int) (w : World), I n7 w → f26.L3 p4 n5 q6 n7 (f26.L3K p4 n5 q6 I μ (μ n7 w)) k w) : f26.L3lp p4 n5 q6 n7 k w := by
  intro D0
  refine loop_ind (P := Try.prog) (fun m a w => ∃ n7 : Int, ∃ D : Nat → Value, a = fr D 38 [37, 36, 32, 31] [.pointer p4, .int .i64 n5, .pointer (some ⟨q6, 0, none⟩), .int .i64 n7] [] ∧ I n7 w ∧ μ n7 w = m) ?_ (μ n7 w) ⟨_, D0, rfl, h0, rfl⟩
  rintro m a w ⟨n7, D, rfl, hI, rfl⟩
  have h := hr n7 w hI
  rw [← f26.L3_den D p4 n5 q6 n7 (f26.L3K p4 n5 q6 I μ (μ n7 w)) k w] at h
  refine then_mono (pc_wp Try.mixed f26.L3_okc h) ?_
  clear h
  intro a w h
  obtain ⟨D, us, ds, rfl, h0⟩ := PJ_out h
  obtain ⟨v, us, rfl, h1⟩ := un_out h0
  obtain ⟨p4', rfl, h2⟩ := asP_out h1
  obtain ⟨v, us, rfl, h3⟩ := un_out h2
  obtain ⟨n5', rfl, h4⟩ := asI_out h3
  obtain ⟨v, us, rfl, h5⟩ := un_out h4
  obtain ⟨q6', rfl, h6⟩ := asBox_out h5
  obtain ⟨v, us, rfl, h7⟩ := un_out h6
  obtain ⟨n7', rfl, h8⟩ := asI_out h7
  obtain ⟨rfl, h9⟩ := nl_out h8
  obtain ⟨rfl, h10⟩ := dn_out h9
  obtain ⟨⟨rfl, rfl, rfl⟩, hI, hlt⟩ := h10
  exact ⟨_, hlt, _, D, rfl, hI, rfl⟩
def f26.b (p1 : Option Addr) (n2 : Int) (k : Value → World → Prop) (w : World) : Prop :=
  AL (.cells #[slv (none, 0, 0)] 67) (fun q3 w => brK (!p1.isNone) (f26.L3lp p1 n2 q3 0 k w) (f26.J1 q3 k w)) w
theorem f26.den (p1 : Option Addr) (n2 : Int) (k : Value → World → Prop) (w : World) : pc Try.prog none (.seq none .none (.seq none .none (.seq (some (f26.J1p k)) (.seq none .none (.cond (.seq none .none (.seq (some (f26.J2p k)) (.block (.at (f26.L3p k))) .none)) .none)) .none))) f26.body (retQ Try.prog [.tmp 4] k) (fun _ => undef) 38 [37, 36] [.pointer p1, .int .i64 n2] [] w = f26.b p1 n2 k w := by kernel_rfl
theorem f26.okc {k : Value → World → Prop} : okC Try.prog none (.seq none .none (.seq none .none (.seq (some (f26.J1p k)) (.seq none .none (.cond (.seq none .none (.seq (some (f26.J2p k)) (.block (.at (f26.L3p k))) .none)) .none)) .none))) f26.body (retQ Try.prog [.tmp 4] k) :=
  Eq.mpr (by kernel_rfl : okC Try.prog none (.seq none .none (.seq none .none (.seq (some (f26.J1p k)) (.seq none .none (.cond (.seq none .none (.seq (some (f26.J2p k)) (.block (.at (f26.L3p k))) .none)) .none)) .none))) f26.body (retQ Try.prog [.tmp 4] k) = (((True) ∧ (((True) ∧ (((((True) ∧ (((((True) ∧ (((OKJ Try.prog none (f26.L3p k) (codeAt f26.body [1, 1, 0, 1, 0, 1, 0, 0]) (f26.Q1 k)) ∧ OKJ Try.prog none (f26.J2p k) (codeAt f26.body [1, 1, 0, 1, 0, 1, 1]) (f26.Q2 k))))) ∧ (True))))) ∧ OKJ Try.prog none (f26.J1p k) (codeAt f26.body [1, 1, 1]) (f26.Q3 k)))))))) (⟨trivial, ⟨trivial, ⟨⟨trivial, ⟨⟨trivial, ⟨f26.L3_ok, f26.J2_ok⟩⟩, trivial⟩⟩, f26.J1_ok⟩⟩⟩)
theorem f26.call {p1 : Option Addr} {n2 : Int} {k : Value → World → Prop} {w : World} (h : f26.b p1 n2 k w) : CALL Try.prog 26 #[.pointer p1, .int .i64 n2] k w :=
  calls_of_pc Try.mixed Try.func26 (by kernel_rfl : Try.f26.body = some f26.body) (Try.call26 _ _) (by kernel_rfl : #[.pointer p1, .int .i64 n2] ++ Array.replicate (Try.f26.ntmps - (#[.pointer p1, .int .i64 n2] : Array Value).size) undef = (FR (fun _ => undef) 38 [37, 36] [.pointer p1, .int .i64 n2]).toArray) (by kernel_rfl : Try.f26.results.toList = [.tmp 4]) f26.okc ((f26.den p1 n2 k w).symm ▸ h)

/-! (*rollcall/timer.Table[int]).Take -/
noncomputable def f27.body : Code := (Try.f27.body).getD .skip
def f27.J1 (q14 : Nat) (k : Value → World → Prop) (ds : List Deferred) (w : World) : Prop :=
  LD slv ⟨q14, 0, none⟩ (fun l15 w => closeD (fun w => k (slv l15) w) ds w) w
def f27.J1p (k : Value → World → Prop) : Act → World → Prop := PJ 20 [14] fun us ds w => un us fun v us => asBox v fun q14 => nl us (f27.J1 q14 k ds w)
def f27.Q1 (k : Value → World → Prop) : Exit → Act → World → Prop := (Exit.inBlock 0 (Exit.then (f27.J1p k) (retQ Try.prog [.tmp 4] k)))
def f27.R2rf (q8 : Nat) (q9 : Nat) (v10 : Value) (k : Value → World → Prop) (ds : List Deferred) (w : World) : Prop := ∀ D : Nat → Value, (Code.rangeFunc (.tmp 9) #[10, 11] (codeAt f27.body [1, 1, 0, 1, 0, 0]) (codeAt f27.body [1, 1, 0, 1, 0, 1])).wpIn (Wd none) 0 Try.prog (f27.Q1 k) (fr D 20 [17, 14, 10] [.pointer (some ⟨q8, 0, none⟩), .pointer (some ⟨q9, 0, none⟩), v10] ds) w
def f27.R2p (k : Value → World → Prop) : Act → World → Prop := PJ 20 [17, 14, 10] fun us ds w => un us fun v us => asBox v fun q8 => un us fun v us => asBox v fun q9 => un us fun v10 us => nl us (f27.R2rf q8 q9 v10 k ds w)
def f27.Q2 (k : Value → World → Prop) : Exit → Act → World → Prop := (retQ Try.prog [.tmp 4] k)
def f27.R2A (q11 : Nat) (q12 : Nat) (v13 : Value) (k : Value → World → Prop) (ds : List Deferred) (w : World) : Prop :=
  f27.J1 q12 k ds w
def f27.R2b (q21 : Nat) (q22 : Nat) (n23 : Int) (r : Option Nat) (q : Exit → World → Prop) (w : World) : Prop :=
  LD slv ⟨q22, 0, none⟩ (fun l24 w => AL (.cells #[.int .i64 n23] 3) (fun q25 w => APP 3 1 8 #[.int .i64 0] l24 1 (fun w => cellsOfS w ((some ⟨q25, 0, none⟩), 1, 1) (1 * 1)) (fun l26 w => ST (Addr.add ⟨q22, 0, none⟩ 0) (slv l26) (fun w => LD Value.pointer ⟨q21, 0, none⟩ (fun p27 w => CALL Try.prog 23 #[.pointer p27, .int .i64 n23] (fun v28 w => ∃ b29 : Bool, v28 = .bool b29 ∧ q .normal w) w) w) w) w) w) w
def f27.R2bp (r : Option Nat) (q : Exit → World → Prop) : Act → World → Prop := PJ 20 [17, 14, 13] fun us ds w => un us fun v us => asBox v fun q21 => un us fun v us => asBox v fun q22 => un us fun v us => asI .i64 v fun n23 => nl us (dn ds (f27.R2b q21 q22 n23 r q w))
def f27.R2 (q16 : Nat) (q17 : Nat) (n19 : Int) (v20 : Value) (r : Option Nat) (G : (World → Prop) → World → Prop) (q : Exit → World → Prop) (w : World) : Prop :=
  G (fun w => f27.R2b q16 q17 n19 r q w) w
def f27.R2E (q8 : Nat) (q9 : Nat) (v10 : Value) (k : Value → World → Prop) (ds : List Deferred) (rec : LoopState → Option Code → Loop) (L : Nat) (D : Nat) (w : World) : Prop :=
  (∃ l, SatL w (own Blk L (.loop (rec .ready none)) :: l) ∧ ∀ w, SatL w (own Blk L (.loop (rec .exhausted none)) :: l) → f27.R2A q8 q9 v10 k ({ target := .collected D, args := #[] } :: ds) w)
theorem f27.R2_ok {k : Value → World → Prop} : OKJ Try.prog none (f27.R2p k) (codeAt f27.body [1, 1, 0, 1, 0]) (f27.Q1 k) := by
  intro a w h
  obtain ⟨D, us, ds, rfl, h0⟩ := PJ_out h
  obtain ⟨v, us, rfl, h1⟩ := un_out h0
  obtain ⟨q8, rfl, h2⟩ := asBox_out h1
  obtain ⟨v, us, rfl, h3⟩ := un_out h2
  obtain ⟨q9, rfl, h4⟩ := asBox_out h3
  obtain ⟨v10, us, rfl, h5⟩ := un_out h4
  obtain ⟨rfl, h6⟩ := nl_out h5
  rw [show (codeAt f27.body [1, 1, 0, 1, 0]) = (Code.rangeFunc (.tmp 9) #[10, 11] (codeAt f27.body [1, 1, 0, 1, 0, 0]) (codeAt f27.body [1, 1, 0, 1, 0, 1])) by kernel_rfl]
  exact h6 D
theorem f27.J1_den (D : Nat → Value) (q14 : Nat) (k : Value → World → Prop) (ds : List Deferred) (w : World) : pc Try.prog none .none (codeAt f27.body [1, 1, 1]) (f27.Q2 k) D 20 [14] [.pointer (some ⟨q14, 0, none⟩)] ds w = f27.J1 q14 k ds w := by kernel_rfl
theorem f27.J1_okc {k : Value → World → Prop} : okC Try.prog none .none (codeAt f27.body [1, 1, 1]) (f27.Q2 k) :=
  Eq.mpr (by kernel_rfl : okC Try.prog none .none (codeAt f27.body [1, 1, 1]) (f27.Q2 k) = (True)) (trivial)
theorem f27.J1_ok {k : Value → World → Prop} : OKJ Try.prog none (f27.J1p k) (codeAt f27.body [1, 1, 1]) (f27.Q2 k) := by
  intro a w h
  obtain ⟨D, us, ds, rfl, h0⟩ := PJ_out h
  obtain ⟨v, us, rfl, h1⟩ := un_out h0
  obtain ⟨q14, rfl, h2⟩ := asBox_out h1
  obtain ⟨rfl, h3⟩ := nl_out h2
  rw [← f27.J1_den D q14 k ds w] at h3
  exact pc_wp Try.mixed f27.J1_okc h3
theorem f27.R2A_den (D : Nat → Value) (q11 : Nat) (q12 : Nat) (v13 : Value) (k : Value → World → Prop) (ds : List Deferred) (w : World) : spK (FR D 20 [17, 14, 10] [.pointer (some ⟨q11, 0, none⟩), .pointer (some ⟨q12, 0, none⟩), v13]) (fun l => (f27.Q1 k) .normal { tmps := l.toArray, defers := ds } w) = f27.R2A q11 q12 v13 k ds w := by kernel_rfl
theorem f27.R2b_den (D : Nat → Value) (q21 : Nat) (q22 : Nat) (n23 : Int) (r : Option Nat) (q : Exit → World → Prop) (w : World) : pc Try.prog r .none (codeAt f27.body [1, 1, 0, 1, 0, 1]) (fun e _ w => q e w) D 20 [17, 14, 13] [.pointer (some ⟨q21, 0, none⟩), .pointer (some ⟨q22, 0, none⟩), .int .i64 n23] [] w = f27.R2b q21 q22 n23 r q w := by kernel_rfl
theorem f27.R2b_okc {r : Option Nat} {q : Exit → World → Prop} : okC Try.prog r .none (codeAt f27.body [1, 1, 0, 1, 0, 1]) (fun e _ w => q e w) :=
  Eq.mpr (by kernel_rfl : okC Try.prog r .none (codeAt f27.body [1, 1, 0, 1, 0, 1]) (fun e _ w => q e w) = (True)) (trivial)
theorem f27.R2b_ok {r : Option Nat} {q : Exit → World → Prop} : OKJ Try.prog r (f27.R2bp r q) (codeAt f27.body [1, 1, 0, 1, 0, 1]) (fun e _ w => q e w) := by
  intro a w h
  obtain ⟨D, us, ds, rfl, h0⟩ := PJ_out h
  obtain ⟨v, us, rfl, h1⟩ := un_out h0
  obtain ⟨q21, rfl, h2⟩ := asBox_out h1
  obtain ⟨v, us, rfl, h3⟩ := un_out h2
  obtain ⟨q22, rfl, h4⟩ := asBox_out h3
  obtain ⟨v, us, rfl, h5⟩ := un_out h4
  obtain ⟨n23, rfl, h6⟩ := asI_out h5
  obtain ⟨rfl, h7⟩ := nl_out h6
  obtain ⟨rfl, h8⟩ := dn_out h7
  rw [← f27.R2b_den D q21 q22 n23 r q w] at h8
  exact pc_wp Try.mixed f27.R2b_okc h8
theorem f27.R2_den (D : Nat → Value) (q16 : Nat) (q17 : Nat) (v18 : Value) (n19 : Int) (v20 : Value) (r : Option Nat) (G : (World → Prop) → World → Prop) (q : Exit → World → Prop) (w : World) : spK (FR D 20 [17, 14, 10, 9, 8] [.pointer (some ⟨q16, 0, none⟩), .pointer (some ⟨q17, 0, none⟩), v18, .int .i64 n19, v20]) (fun l => den Try.prog r (codeAt f27.body [1, 1, 0, 1, 0, 0]) (Exit.then (fun a w => G (fun w => f27.R2bp r q a w) w) (fun _ _ _ => False)) { tmps := l.toArray, defers := [] } w) = f27.R2 q16 q17 n19 v20 r G q w := by kernel_rfl
theorem f27.R2_rule {q8 : Nat} {q9 : Nat} {v10 : Value} {k : Value → World → Prop} {w : World} {l : List HProp} {gf : Nat} {first cap : Array Value} {ds : List Deferred} (hv : v10 = .func (.func gf) first cap) (hent : ∀ args w, (callFunc gf args).run Try.prog w = .ok (.enter gf args) w) (hw : SatL w l)
    (h : ∀ (rec : LoopState → Option Code → Loop) (L D : Nat) (w : World), (∀ {n19 : Int} {v20 : Value} {K : Value → World → Prop} {w : World} {l : List HProp}, SatL w (own Blk L (.loop (rec .ready none)) :: l) → f27.R2 q8 q9 n19 v20 (some L) (BG L rec) (rdE L rec K) w → YLD Try.prog L #[.int .i64 n19, v20] K w) → SatL w (own Blk L (.loop (rec .ready none)) :: own Blk D (.deferred (some [])) :: l) → CALL Try.prog gf (first.toList ++ [Value.func (.yield L) #[] #[]] ++ cap.toList).toArray (fun _ w => f27.R2E q8 q9 v10 k ds rec L D w) w) :
    f27.R2rf q8 q9 v10 k ds w := by
  subst hv
  intro D0
  refine RF_o rfl hent hw fun fn L D w1 h1 => ?_
  refine CALL.mono (h (recO fn _ _ _ _ D) L D w1 ?_ h1) ?_
  · intro n19 v20 K w l hw h
    refine YLD_r (t := (FR D0 20 [17, 14, 10, 9, 8] [.pointer (some ⟨q8, 0, none⟩), .pointer (some ⟨q9, 0, none⟩), .func (.func gf) first cap, .int .i64 n19, v20]).toArray) hw rfl (by kernel_rfl) (round_ofP Try.mixed (f27.R2b_ok (r := some L)) ?_)
    rw [← f27.R2_den D0 q8 q9 _ n19 v20, spK_eq] at h
    exact h
  · rintro _ w2 h2
    unfold f27.R2E at h2
    rcases h2 with ⟨l2, h3, h4⟩
    · exact .inl ⟨l2, h3, fun w' h5 => by have h6 := h4 w' h5; rw [← f27.R2A_den D0 q8 q9 _ k ({ target := .collected D, args := #[] } :: ds), spK_eq] at h6; exact h6⟩
def f27.b (p1 : Option Addr) (n2 : Int) (k : Value → World → Prop) (w : World) : Prop :=
  AL (.cells #[.pointer p1] 54) (fun q3 w => AL (.cells #[slv (none, 0, 0)] 61) (fun q4 w => LD Value.pointer ⟨q3, 0, none⟩ (fun p5 w => CALL Try.prog 26 #[.pointer p5, .int .i64 n2] (fun v6 w => ∃ v7 : Value, v6 = v7 ∧ f27.R2rf q3 q4 v7 k [] w) w) w) w) w
theorem f27.den (p1 : Option Addr) (n2 : Int) (k : Value → World → Prop) (w : World) : pc Try.prog none (.seq none .none (.seq none .none (.seq (some (f27.J1p k)) (.seq none .none (.block (.at (f27.R2p k)))) .none))) f27.body (retQ Try.prog [.tmp 4] k) (fun _ => undef) 20 [19, 18] [.pointer p1, .int .i64 n2] [] w = f27.b p1 n2 k w := by kernel_rfl
theorem f27.okc {k : Value → World → Prop} : okC Try.prog none (.seq none .none (.seq none .none (.seq (some (f27.J1p k)) (.seq none .none (.block (.at (f27.R2p k)))) .none))) f27.body (retQ Try.prog [.tmp 4] k) :=
  Eq.mpr (by kernel_rfl : okC Try.prog none (.seq none .none (.seq none .none (.seq (some (f27.J1p k)) (.seq none .none (.block (.at (f27.R2p k)))) .none))) f27.body (retQ Try.prog [.tmp 4] k) = (((True) ∧ (((True) ∧ (((((True) ∧ (OKJ Try.prog none (f27.R2p k) (codeAt f27.body [1, 1, 0, 1, 0]) (f27.Q1 k)))) ∧ OKJ Try.prog none (f27.J1p k) (codeAt f27.body [1, 1, 1]) (f27.Q2 k)))))))) (⟨trivial, ⟨trivial, ⟨⟨trivial, f27.R2_ok⟩, f27.J1_ok⟩⟩⟩)
theorem f27.call {p1 : Option Addr} {n2 : Int} {k : Value → World → Prop} {w : World} (h : f27.b p1 n2 k w) : CALL Try.prog 27 #[.pointer p1, .int .i64 n2] k w :=
  calls_of_pc Try.mixed Try.func27 (by kernel_rfl : Try.f27.body = some f27.body) (Try.call27 _ _) (by kernel_rfl : #[.pointer p1, .int .i64 n2] ++ Array.replicate (Try.f27.ntmps - (#[.pointer p1, .int .i64 n2] : Array Value).size) undef = (FR (fun _ => undef) 20 [19, 18] [.pointer p1, .int .i64 n2]).toArray) (by kernel_rfl : Try.f27.results.toList = [.tmp 4]) f27.okc ((f27.den p1 n2 k w).symm ▸ h)

/-! slices.Sorted[int] -/
noncomputable def f28.body : Code := (Try.f28.body).getD .skip
def f28.b (v1 : Value) (k : Value → World → Prop) (w : World) : Prop :=
  CALL Try.prog 37 #[v1] (fun v2 w => ∃ l3 : Sl, v2 = slv l3 ∧ CALL Try.prog 38 #[slv l3] (fun v4 w => v4 = .tuple #[] ∧ k (slv l3) w) w) w
theorem f28.den (v1 : Value) (k : Value → World → Prop) (w : World) : pc Try.prog none .none f28.body (retQ Try.prog [.tmp 2] k) (fun _ => undef) 9 [8] [v1] [] w = f28.b v1 k w := by kernel_rfl
theorem f28.okc {k : Value → World → Prop} : okC Try.prog none .none f28.body (retQ Try.prog [.tmp 2] k) :=
  Eq.mpr (by kernel_rfl : okC Try.prog none .none f28.body (retQ Try.prog [.tmp 2] k) = (True)) (trivial)
theorem f28.call {v1 : Value} {k : Value → World → Prop} {w : World} (h : f28.b v1 k w) : CALL Try.prog 28 #[v1] k w :=
  calls_of_pc Try.mixed Try.func28 (by kernel_rfl : Try.f28.body = some f28.body) (Try.call28 _ _) (by kernel_rfl : #[v1] ++ Array.replicate (Try.f28.ntmps - (#[v1] : Array Value).size) undef = (FR (fun _ => undef) 9 [8] [v1]).toArray) (by kernel_rfl : Try.f28.results.toList = [.tmp 2]) f28.okc ((f28.den v1 k w).symm ▸ h)

/-! maps.Keys[map[int]int,int,int] -/
noncomputable def f29.body : Code := (Try.f29.body).getD .skip
def f29.b (m1 : Option Nat) (k : Value → World → Prop) (w : World) : Prop :=
  AL (.cells #[.map m1] 53) (fun q2 w => k (.func (.func 39) #[] #[.pointer (some ⟨q2, 0, none⟩)]) w) w
theorem f29.den (m1 : Option Nat) (k : Value → World → Prop) (w : World) : pc Try.prog none .none f29.body (retQ Try.prog [.tmp 2] k) (fun _ => undef) 4 [3] [.map m1] [] w = f29.b m1 k w := by kernel_rfl
theorem f29.okc {k : Value → World → Prop} : okC Try.prog none .none f29.body (retQ Try.prog [.tmp 2] k) :=
  Eq.mpr (by kernel_rfl : okC Try.prog none .none f29.body (retQ Try.prog [.tmp 2] k) = (True)) (trivial)
theorem f29.call {m1 : Option Nat} {k : Value → World → Prop} {w : World} (h : f29.b m1 k w) : CALL Try.prog 29 #[.map m1] k w :=
  calls_of_pc Try.mixed Try.func29 (by kernel_rfl : Try.f29.body = some f29.body) (Try.call29 _ _) (by kernel_rfl : #[.map m1] ++ Array.replicate (Try.f29.ntmps - (#[.map m1] : Array Value).size) undef = (FR (fun _ => undef) 4 [3] [.map m1]).toArray) (by kernel_rfl : Try.f29.results.toList = [.tmp 2]) f29.okc ((f29.den m1 k w).symm ▸ h)

/-! (*rollcall/pulse.Pulse).Due$2 -/
noncomputable def f30.body : Code := (Try.f30.body).getD .skip
def f30.Q1 (k : Value → World → Prop) : Exit → Act → World → Prop := (Exit.inBlock 0 (retQ Try.prog [] k))
def f30.L1k (Kn1 : Value → Nat → Sl → Int → Int → World → Prop) : Act → World → Prop := PJ 20 [19, 17, 13, 12, 11] fun us ds w => un us fun v5 us => un us fun v us => asBox v fun q6 => un us fun v us => asS v fun l7 => un us fun v us => asI .i64 v fun n8 => un us fun v us => asI .i64 v fun n9 => nl us (dn ds (Kn1 v5 q6 l7 n8 n9 w))
def f30.L1 (v5 : Value) (q6 : Nat) (l7 : Sl) (n8 : Int) (n9 : Int) (Kn1 : Value → Nat → Sl → Int → Int → World → Prop) (k : Value → World → Prop) (w : World) : Prop :=
  brK (decide (n9 < n8)) (IX l7 n9 1 (fun a10 => LD (Value.int .i64) a10 (fun n11 w => LD Value.map ⟨q6, 0, none⟩ (fun m12 w => LK m12 (.int .i64) (.int .i64 n11) (.int .i64 0) (fun v13 b14 w => ∃ n15 : Int, v13 = .int .i64 n15 ∧ DYN Try.prog v5 #[.int .i64 n11, .int .i64 n15] (fun v16 w => ∃ b17 : Bool, v16 = .bool b17 ∧ brK (!b17) (k (.tuple #[]) w) (Kn1 v5 q6 l7 n8 (IntKind.wrap .i64 (n9 + 1)) w)) w) w) w) w)) (k (.tuple #[]) w)
def f30.L1lp (v5 : Value) (q6 : Nat) (l7 : Sl) (n8 : Int) (n9 : Int) (k : Value → World → Prop) (w : World) : Prop := ∀ D : Nat → Value, (Code.loop (codeAt f30.body [1, 0, 0])).wpIn (Wd none) 0 Try.prog (f30.Q1 k) (fr D 20 [19, 17, 13, 12, 11] [v5, .pointer (some ⟨q6, 0, none⟩), slv l7, .int .i64 n8, .int .i64 n9] []) w
def f30.L1p (k : Value → World → Prop) : Act → World → Prop := PJ 20 [19, 17, 13, 12, 11] fun us ds w => un us fun v5 us => un us fun v us => asBox v fun q6 => un us fun v us => asS v fun l7 => un us fun v us => asI .i64 v fun n8 => un us fun v us => asI .i64 v fun n9 => nl us (dn ds (f30.L1lp v5 q6 l7 n8 n9 k w))
def f30.L1K (v5 : Value) (q6 : Nat) (l7 : Sl) (n8 : Int) (I : Int → World → Prop) (μ : Int → World → Nat) (m : Nat) (v5' : Value) (q6' : Nat) (l7' : Sl) (n8' : Int) (n9' : Int) (w : World) : Prop := (v5' = v5 ∧ q6' = q6 ∧ l7' = l7 ∧ n8' = n8) ∧ I n9' w ∧ μ n9' w < m
theorem f30.L1_next {v5 : Value} {q6 : Nat} {l7 : Sl} {n8 : Int} {I : Int → World → Prop} {μ : Int → World → Nat} {m : Nat} {n9 : Int} {w : World} (hI : I n9 w) (hlt : μ n9 w < m) : f30.L1K v5 q6 l7 n8 I μ m v5 q6 l7 n8 n9 w := ⟨⟨rfl, rfl, rfl, rfl⟩, hI, hlt⟩
theorem f30.L1_den (D : Nat → Value) (v5 : Value) (q6 : Nat) (l7 : Sl) (n8 : Int) (n9 : Int) (Kn1 : Value → Nat → Sl → Int → Int → World → Prop) (k : Value → World → Prop) (w : World) : pc Try.prog none .none (codeAt f30.body [1, 0, 0]) (Exit.then (f30.L1k Kn1) (f30.Q1 k)) D 20 [19, 17, 13, 12, 11] [v5, .pointer (some ⟨q6, 0, none⟩), slv l7, .int .i64 n8, .int .i64 n9] [] w = f30.L1 v5 q6 l7 n8 n9 Kn1 k w := by kernel_rfl
theorem f30.L1_okc {Kn1 : Value → Nat → Sl → Int → Int → World → Prop} {k : Value → World → Prop} : okC Try.prog none .none (codeAt f30.body [1, 0, 0]) (Exit.then (f30.L1k Kn1) (f30.Q1 k)) :=
  Eq.mpr (by kernel_rfl : okC Try.prog none .none (codeAt f30.body [1, 0, 0]) (Exit.then (f30.L1k Kn1) (f30.Q1 k)) = (True)) (trivial)
theorem f30.L1_ok {k : Value → World → Prop} : OKJ Try.prog none (f30.L1p k) (codeAt f30.body [1, 0]) (f30.Q1 k) := by
  intro a w h
  obtain ⟨D, us, ds, rfl, h0⟩ := PJ_out h
  obtain ⟨v5, us, rfl, h1⟩ := un_out h0
  obtain ⟨v, us, rfl, h2⟩ := un_out h1
  obtain ⟨q6, rfl, h3⟩ := asBox_out h2
  obtain ⟨v, us, rfl, h4⟩ := un_out h3
  obtain ⟨l7, rfl, h5⟩ := asS_out h4
  obtain ⟨v, us, rfl, h6⟩ := un_out h5
  obtain ⟨n8, rfl, h7⟩ := asI_out h6
  obtain ⟨v, us, rfl, h8⟩ := un_out h7
  obtain ⟨n9, rfl, h9⟩ := asI_out h8
  obtain ⟨rfl, h10⟩ := nl_out h9
  obtain ⟨rfl, h11⟩ := dn_out h10
  rw [show (codeAt f30.body [1, 0]) = Code.loop (codeAt f30.body [1, 0, 0]) by kernel_rfl]
  exact h11 D
theorem f30.L1_rule {v5 : Value} {q6 : Nat} {l7 : Sl} {n8 : Int} {k : Value → World → Prop} (I : Int → World → Prop) (μ : Int → World → Nat) {n9 : Int} {w : World} (h0 : I n9 w)
    (hr : ∀ (n9 : Int) (w : World), I n9 w → f30.L1 v5 q6 l7 n8 n9 (f30.L1K v5 q6 l7 n8 I μ (μ n9 w)) k w) : f30.L1lp v5 q6 l7 n8 n9 k w := by
  intro D0
  refine loop_ind (P := Try.prog) (fun m a w => ∃ n9 : Int, ∃ D : Nat → Value, a = fr D 20 [19, 17, 13, 12, 11] [v5, .pointer (some ⟨q6, 0, none⟩), slv l7, .int .i64 n8, .int .i64 n9] [] ∧ I n9 w ∧ μ n9 w = m) ?_ (μ n9 w) ⟨_, D0, rfl, h0, rfl⟩
  rintro m a w ⟨n9, D, rfl, hI, rfl⟩
  have h := hr n9 w hI
  rw [← f30.L1_den D v5 q6 l7 n8 n9 (f30.L1K v5 q6 l7 n8 I μ (μ n9 w)) k w] at h
  refine then_mono (pc_wp Try.mixed f30.L1_okc h) ?_
  clear h
  intro a w h
  obtain ⟨D, us, ds, rfl, h0⟩ := PJ_out h
  obtain ⟨v5', us, rfl, h1⟩ := un_out h0
  obtain ⟨v, us, rfl, h2⟩ := un_out h1
  obtain ⟨q6', rfl, h3⟩ := asBox_out h2
  obtain ⟨v, us, rfl, h4⟩ := un_out h3
  obtain ⟨l7', rfl, h5⟩ := asS_out h4
  obtain ⟨v, us, rfl, h6⟩ := un_out h5
  obtain ⟨n8', rfl, h7⟩ := asI_out h6
  obtain ⟨v, us, rfl, h8⟩ := un_out h7
  obtain ⟨n9', rfl, h9⟩ := asI_out h8
  obtain ⟨rfl, h10⟩ := nl_out h9
  obtain ⟨rfl, h11⟩ := dn_out h10
  obtain ⟨⟨rfl, rfl, rfl, rfl⟩, hI, hlt⟩ := h11
  exact ⟨_, hlt, _, D, rfl, hI, rfl⟩
def f30.b (v1 : Value) (q2 : Nat) (q3 : Nat) (k : Value → World → Prop) (w : World) : Prop :=
  LD slv ⟨q2, 0, none⟩ (fun l4 w => f30.L1lp v1 q3 l4 ((l4.2.1 : Nat) : Int) 0 k w) w
theorem f30.den (v1 : Value) (q2 : Nat) (q3 : Nat) (k : Value → World → Prop) (w : World) : pc Try.prog none (.seq none .none (.block (.at (f30.L1p k)))) f30.body (retQ Try.prog [] k) (fun _ => undef) 20 [19, 18, 17] [v1, .pointer (some ⟨q2, 0, none⟩), .pointer (some ⟨q3, 0, none⟩)] [] w = f30.b v1 q2 q3 k w := by kernel_rfl
theorem f30.okc {k : Value → World → Prop} : okC Try.prog none (.seq none .none (.block (.at (f30.L1p k)))) f30.body (retQ Try.prog [] k) :=
  Eq.mpr (by kernel_rfl : okC Try.prog none (.seq none .none (.block (.at (f30.L1p k)))) f30.body (retQ Try.prog [] k) = (((True) ∧ (OKJ Try.prog none (f30.L1p k) (codeAt f30.body [1, 0]) (f30.Q1 k))))) (⟨trivial, f30.L1_ok⟩)
theorem f30.call {v1 : Value} {q2 : Nat} {q3 : Nat} {k : Value → World → Prop} {w : World} (h : f30.b v1 q2 q3 k w) : CALL Try.prog 30 #[v1, .pointer (some ⟨q2, 0, none⟩), .pointer (some ⟨q3, 0, none⟩)] k w :=
  calls_of_pc Try.mixed Try.func30 (by kernel_rfl : Try.f30.body = some f30.body) (Try.call30 _ _) (by kernel_rfl : #[v1, .pointer (some ⟨q2, 0, none⟩), .pointer (some ⟨q3, 0, none⟩)] ++ Array.replicate (Try.f30.ntmps - (#[v1, .pointer (some ⟨q2, 0, none⟩), .pointer (some ⟨q3, 0, none⟩)] : Array Value).size) undef = (FR (fun _ => undef) 20 [19, 18, 17] [v1, .pointer (some ⟨q2, 0, none⟩), .pointer (some ⟨q3, 0, none⟩)]).toArray) (by kernel_rfl : Try.f30.results.toList = []) f30.okc ((f30.den v1 q2 q3 k w).symm ▸ h)

/-! slices.BinarySearchFunc[[]rollcall/timer.item[int],rollcall/timer.item[int],rollcall/timer.item[int]] -/
noncomputable def f31.body : Code := (Try.f31.body).getD .skip
def f31.J1 (l19 : Sl) (v20 : Value) (q21 : Nat) (n22 : Int) (n23 : Int) (k : Value → World → Prop) (w : World) : Prop :=
  DR (fun w => brK (decide (n23 < n22)) (IX l19 n23 2 (fun a24 => LD (Value.int .i64) (Addr.add a24 0) (fun n25 w => LD (Value.int .i64) (Addr.add a24 1) (fun n26 w => LD (Value.int .i64) (Addr.add ⟨q21, 0, none⟩ 0) (fun n27 w => LD (Value.int .i64) (Addr.add ⟨q21, 0, none⟩ 1) (fun n28 w => DYN Try.prog v20 #[.agg #[.int .i64 n25, .int .i64 n26], .agg #[.int .i64 n27, .int .i64 n28]] (fun v29 w => ∃ n30 : Int, v29 = .int .i64 n30 ∧ k (.tuple #[.int .i64 n23, .bool (n30 == 0)]) w) w) w) w) w) w)) (k (.tuple #[.int .i64 n23, .bool false]) w)) w
def f31.J1p (k : Value → World → Prop) : Act → World → Prop := PJ 49 [48, 46, 44, 40, 39] fun us ds w => un us fun v us => asS v fun l19 => un us fun v20 us => un us fun v us => asBox v fun q21 => un us fun v us => asI .i64 v fun n22 => un us fun v us => asI .i64 v fun n23 => nl us (dn ds (f31.J1 l19 v20 q21 n22 n23 k w))
def f31.Q1 (k : Value → World → Prop) : Exit → Act → World → Prop := (Exit.inBlock 0 (Exit.then (f31.J1p k) (retQ Try.prog [.tmp 6, .tmp 7] k)))
def f31.L2k (Kn1 : Sl → Value → Nat → Int → Int → Int → World → Prop) : Act → World → Prop := PJ 49 [48, 46, 44, 40, 39, 38] fun us ds w => un us fun v us => asS v fun l6 => un us fun v7 us => un us fun v us => asBox v fun q8 => un us fun v us => asI .i64 v fun n9 => un us fun v us => asI .i64 v fun n10 => un us fun v us => asI .i64 v fun n11 => nl us (dn ds (Kn1 l6 v7 q8 n9 n10 n11 w))
def f31.Q2 (k : Value → World → Prop) : Exit → Act → World → Prop := (retQ Try.prog [.tmp 6, .tmp 7] k)
def f31.L2 (l6 : Sl) (v7 : Value) (q8 : Nat) (n9 : Int) (n10 : Int) (n11 : Int) (Kn1 : Sl → Value → Nat → Int → Int → Int → World → Prop) (k : Value → World → Prop) (w : World) : Prop :=
  brK (decide (n10 < n11)) (RQ ((0 : Int) ≤ 1) (DR (fun w => IX l6 (IntKind.wrap .i64 (Int.fdiv (IntKind.wrap .u64 (IntKind.wrap .i64 (n10 + n11))) (2 ^ (min (Int.toNat 1) (IntKind.bits .u64))))) 2 (fun a12 => LD (Value.int .i64) (Addr.add a12 0) (fun n13 w => LD (Value.int .i64) (Addr.add a12 1) (fun n14 w => LD (Value.int .i64) (Addr.add ⟨q8, 0, none⟩ 0) (fun n15 w => LD (Value.int .i64) (Addr.add ⟨q8, 0, none⟩ 1) (fun n16 w => DYN Try.prog v7 #[.agg #[.int .i64 n13, .int .i64 n14], .agg #[.int .i64 n15, .int .i64 n16]] (fun v17 w => ∃ n18 : Int, v17 = .int .i64 n18 ∧ brK (decide (n18 < 0)) (Kn1 l6 v7 q8 n9 (IntKind.wrap .i64 ((IntKind.wrap .i64 (Int.fdiv (IntKind.wrap .u64 (IntKind.wrap .i64 (n10 + n11))) (2 ^ (min (Int.toNat 1) (IntKind.bits .u64))))) + 1)) n11 w) (Kn1 l6 v7 q8 n9 n10 (IntKind.wrap .i64 (Int.fdiv (IntKind.wrap .u64 (IntKind.wrap .i64 (n10 + n11))) (2 ^ (min (Int.toNat 1) (IntKind.bits .u64))))) w)) w) w) w) w) w)) w)) (f31.J1 l6 v7 q8 n9 n10 k w)
def f31.L2lp (l6 : Sl) (v7 : Value) (q8 : Nat) (n9 : Int) (n10 : Int) (n11 : Int) (k : Value → World → Prop) (w : World) : Prop := ∀ D : Nat → Value, (Code.loop (codeAt f31.body [1, 1, 1, 0, 0, 0])).wpIn (Wd none) 0 Try.prog (f31.Q1 k) (fr D 49 [48, 46, 44, 40, 39, 38] [slv l6, v7, .pointer (some ⟨q8, 0, none⟩), .int .i64 n9, .int .i64 n10, .int .i64 n11] []) w
def f31.L2p (k : Value → World → Prop) : Act → World → Prop := PJ 49 [48, 46, 44, 40, 39, 38] fun us ds w => un us fun v us => asS v fun l6 => un us fun v7 us => un us fun v us => asBox v fun q8 => un us fun v us => asI .i64 v fun n9 => un us fun v us => asI .i64 v fun n10 => un us fun v us => asI .i64 v fun n11 => nl us (dn ds (f31.L2lp l6 v7 q8 n9 n10 n11 k w))
def f31.L2K (l6 : Sl) (v7 : Value) (q8 : Nat) (n9 : Int) (I : Int → Int → World → Prop) (μ : Int → Int → World → Nat) (m : Nat) (l6' : Sl) (v7' : Value) (q8' : Nat) (n9' : Int) (n10' : Int) (n11' : Int) (w : World) : Prop := (l6' = l6 ∧ v7' = v7 ∧ q8' = q8 ∧ n9' = n9) ∧ I n10' n11' w ∧ μ n10' n11' w < m
theorem f31.J1_den (D : Nat → Value) (l19 : Sl) (v20 : Value) (q21 : Nat) (n22 : Int) (n23 : Int) (k : Value → World → Prop) (w : World) : pc Try.prog none .none (codeAt f31.body [1, 1, 1, 1]) (f31.Q2 k) D 49 [48, 46, 44, 40, 39] [slv l19, v20, .pointer (some ⟨q21, 0, none⟩), .int .i64 n22, .int .i64 n23] [] w = f31.J1 l19 v20 q21 n22 n23 k w := by kernel_rfl
theorem f31.J1_okc {k : Value → World → Prop} : okC Try.prog none .none (codeAt f31.body [1, 1, 1, 1]) (f31.Q2 k) :=
  Eq.mpr (by kernel_rfl : okC Try.prog none .none (codeAt f31.body [1, 1, 1, 1]) (f31.Q2 k) = (True)) (trivial)
theorem f31.J1_ok {k : Value → World → Prop} : OKJ Try.prog none (f31.J1p k) (codeAt f31.body [1, 1, 1, 1]) (f31.Q2 k) := by
  intro a w h
  obtain ⟨D, us, ds, rfl, h0⟩ := PJ_out h
  obtain ⟨v, us, rfl, h1⟩ := un_out h0
  obtain ⟨l19, rfl, h2⟩ := asS_out h1
  obtain ⟨v20, us, rfl, h3⟩ := un_out h2
  obtain ⟨v, us, rfl, h4⟩ := un_out h3
  obtain ⟨q21, rfl, h5⟩ := asBox_out h4
  obtain ⟨v, us, rfl, h6⟩ := un_out h5
  obtain ⟨n22, rfl, h7⟩ := asI_out h6
  obtain ⟨v, us, rfl, h8⟩ := un_out h7
  obtain ⟨n23, rfl, h9⟩ := asI_out h8
  obtain ⟨rfl, h10⟩ := nl_out h9
  obtain ⟨rfl, h11⟩ := dn_out h10
  rw [← f31.J1_den D l19 v20 q21 n22 n23 k w] at h11
  exact pc_wp Try.mixed f31.J1_okc h11
theorem f31.L2_next {l6 : Sl} {v7 : Value} {q8 : Nat} {n9 : Int} {I : Int → Int → World → Prop} {μ : Int → Int → World → Nat} {m : Nat} {n10 : Int} {n11 : Int} {w : World} (hI : I n10 n11 w) (hlt : μ n10 n11 w < m) : f31.L2K l6 v7 q8 n9 I μ m l6 v7 q8 n9 n10 n11 w := ⟨⟨rfl, rfl, rfl, rfl⟩, hI, hlt⟩
theorem f31.L2_den (D : Nat → Value) (l6 : Sl) (v7 : Value) (q8 : Nat) (n9 : Int) (n10 : Int) (n11 : Int) (Kn1 : Sl → Value → Nat → Int → Int → Int → World → Prop) (k : Value → World → Prop) (w : World) : pc Try.prog none .none (codeAt f31.body [1, 1, 1, 0, 0, 0]) (Exit.then (f31.L2k Kn1) (f31.Q1 k)) D 49 [48, 46, 44, 40, 39, 38] [slv l6, v7, .pointer (some ⟨q8, 0, none⟩), .int .i64 n9, .int .i64 n10, .int .i64 n11] [] w = f31.L2 l6 v7 q8 n9 n10 n11 Kn1 k w := by kernel_rfl
theorem f31.L2_okc {Kn1 : Sl → Value → Nat → Int → Int → Int → World → Prop} {k : Value → World → Prop} : okC Try.prog none .none (codeAt f31.body [1, 1, 1, 0, 0, 0]) (Exit.then (f31.L2k Kn1) (f31.Q1 k)) :=
  Eq.mpr (by kernel_rfl : okC Try.prog none .none (codeAt f31.body [1, 1, 1, 0, 0, 0]) (Exit.then (f31.L2k Kn1) (f31.Q1 k)) = (True)) (trivial)
theorem f31.L2_ok {k : Value → World → Prop} : OKJ Try.prog none (f31.L2p k) (codeAt f31.body [1, 1, 1, 0, 0]) (f31.Q1 k) := by
  intro a w h
  obtain ⟨D, us, ds, rfl, h0⟩ := PJ_out h
  obtain ⟨v, us, rfl, h1⟩ := un_out h0
  obtain ⟨l6, rfl, h2⟩ := asS_out h1
  obtain ⟨v7, us, rfl, h3⟩ := un_out h2
  obtain ⟨v, us, rfl, h4⟩ := un_out h3
  obtain ⟨q8, rfl, h5⟩ := asBox_out h4
  obtain ⟨v, us, rfl, h6⟩ := un_out h5
  obtain ⟨n9, rfl, h7⟩ := asI_out h6
  obtain ⟨v, us, rfl, h8⟩ := un_out h7
  obtain ⟨n10, rfl, h9⟩ := asI_out h8
  obtain ⟨v, us, rfl, h10⟩ := un_out h9
  obtain ⟨n11, rfl, h11⟩ := asI_out h10
  obtain ⟨rfl, h12⟩ := nl_out h11
  obtain ⟨rfl, h13⟩ := dn_out h12
  rw [show (codeAt f31.body [1, 1, 1, 0, 0]) = Code.loop (codeAt f31.body [1, 1, 1, 0, 0, 0]) by kernel_rfl]
  exact h13 D
theorem f31.L2_rule {l6 : Sl} {v7 : Value} {q8 : Nat} {n9 : Int} {k : Value → World → Prop} (I : Int → Int → World → Prop) (μ : Int → Int → World → Nat) {n10 : Int} {n11 : Int} {w : World} (h0 : I n10 n11 w)
    (hr : ∀ (n10 : Int) (n11 : Int) (w : World), I n10 n11 w → f31.L2 l6 v7 q8 n9 n10 n11 (f31.L2K l6 v7 q8 n9 I μ (μ n10 n11 w)) k w) : f31.L2lp l6 v7 q8 n9 n10 n11 k w := by
  intro D0
  refine loop_ind (P := Try.prog) (fun m a w => ∃ n10 : Int, ∃ n11 : Int, ∃ D : Nat → Value, a = fr D 49 [48, 46, 44, 40, 39, 38] [slv l6, v7, .pointer (some ⟨q8, 0, none⟩), .int .i64 n9, .int .i64 n10, .int .i64 n11] [] ∧ I n10 n11 w ∧ μ n10 n11 w = m) ?_ (μ n10 n11 w) ⟨_, _, D0, rfl, h0, rfl⟩
  rintro m a w ⟨n10, n11, D, rfl, hI, rfl⟩
  have h := hr n10 n11 w hI
  rw [← f31.L2_den D l6 v7 q8 n9 n10 n11 (f31.L2K l6 v7 q8 n9 I μ (μ n10 n11 w)) k w] at h
  refine then_mono (pc_wp Try.mixed f31.L2_okc h) ?_
  clear h
  intro a w h
  obtain ⟨D, us, ds, rfl, h0⟩ := PJ_out h
  obtain ⟨v, us, rfl, h1⟩ := un_out h0
  obtain ⟨l6', rfl, h2⟩ := asS_out h1
  obtain ⟨v7', us, rfl, h3⟩ := un_out h2
  obtain ⟨v, us, rfl, h4⟩ := un_out h3
  obtain ⟨q8', rfl, h5⟩ := asBox_out h4
  obtain ⟨v, us, rfl, h6⟩ := un_out h5
  obtain ⟨n9', rfl, h7⟩ := asI_out h6
  obtain ⟨v, us, rfl, h8⟩ := un_out h7
  obtain ⟨n10', rfl, h9⟩ := asI_out h8
  obtain ⟨v, us, rfl, h10⟩ := un_out h9
  obtain ⟨n11', rfl, h11⟩ := asI_out h10
  obtain ⟨rfl, h12⟩ := nl_out h11
  obtain ⟨rfl, h13⟩ := dn_out h12
  obtain ⟨⟨rfl, rfl, rfl, rfl⟩, hI, hlt⟩ := h13
  exact ⟨_, hlt, _, _, D, rfl, hI, rfl⟩
def f31.b (l1 : Sl) (n2 : Int) (n3 : Int) (v4 : Value) (k : Value → World → Prop) (w : World) : Prop :=
  AL (.cells #[.int .i64 n2, .int .i64 n3] 72) (fun q5 w => f31.L2lp l1 v4 q5 ((l1.2.1 : Nat) : Int) 0 ((l1.2.1 : Nat) : Int) k w) w
theorem f31.den (l1 : Sl) (n2 : Int) (n3 : Int) (v4 : Value) (k : Value → World → Prop) (w : World) : pc Try.prog none (.seq none .none (.seq none .none (.seq none .none (.seq (some (f31.J1p k)) (.block (.at (f31.L2p k))) .none)))) f31.body (retQ Try.prog [.tmp 6, .tmp 7] k) (fun _ => undef) 49 [48, 47, 46] [slv l1, .agg #[.int .i64 n2, .int .i64 n3], v4] [] w = f31.b l1 n2 n3 v4 k w := by kernel_rfl
theorem f31.okc {k : Value → World → Prop} : okC Try.prog none (.seq none .none (.seq none .none (.seq none .none (.seq (some (f31.J1p k)) (.block (.at (f31.L2p k))) .none)))) f31.body (retQ Try.prog [.tmp 6, .tmp 7] k) :=
  Eq.mpr (by kernel_rfl : okC Try.prog none (.seq none .none (.seq none .none (.seq none .none (.seq (some (f31.J1p k)) (.block (.at (f31.L2p k))) .none)))) f31.body (retQ Try.prog [.tmp 6, .tmp 7] k) = (((True) ∧ (((True) ∧ (((True) ∧ (((OKJ Try.prog none (f31.L2p k) (codeAt f31.body [1, 1, 1, 0, 0]) (f31.Q1 k)) ∧ OKJ Try.prog none (f31.J1p k) (codeAt f31.body [1, 1, 1, 1]) (f31.Q2 k)))))))))) (⟨trivial, ⟨trivial, ⟨trivial, ⟨f31.L2_ok, f31.J1_ok⟩⟩⟩⟩)
theorem f31.call {l1 : Sl} {n2 : Int} {n3 : Int} {v4 : Value} {k : Value → World → Prop} {w : World} (h : f31.b l1 n2 n3 v4 k w) : CALL Try.prog 31 #[slv l1, .agg #[.int .i64 n2, .int .i64 n3], v4] k w :=
  calls_of_pc Try.mixed Try.func31 (by kernel_rfl : Try.f31.body = some f31.body) (Try.call31 _ _) (by kernel_rfl : #[slv l1, .agg #[.int .i64 n2, .int .i64 n3], v4] ++ Array.replicate (Try.f31.ntmps - (#[slv l1, .agg #[.int .i64 n2, .int .i64 n3], v4] : Array Value).size) undef = (FR (fun _ => undef) 49 [48, 47, 46] [slv l1, .agg #[.int .i64 n2, .int .i64 n3], v4]).toArray) (by kernel_rfl : Try.f31.results.toList = [.tmp 6, .tmp 7]) f31.okc ((f31.den l1 n2 n3 v4 k w).symm ▸ h)

/-! slices.Insert[[]rollcall/timer.item[int],rollcall/timer.item[int]] -/
noncomputable def f33.body : Code := (Try.f33.body).getD .skip
def f33.b (l1 : Sl) (n2 : Int) (l3 : Sl) (k : Value → World → Prop) (w : World) : Prop :=
  RQ (0 ≤ (n2 : Int) ∧ (n2 : Int) ≤ ((l1.2.1 : Nat) : Int)) (brK (((l3.2.1 : Nat) : Int) == 0) (k (slv l1) w) (brK (n2 == ((l1.2.1 : Nat) : Int)) (APP 72 2 16 #[.int .i64 0, .int .i64 0] l1 l3.2.1 (fun w => cellsOfS w l3 (l3.2.1 * 2)) (fun l4 w => k (slv l4) w) w) (brK (decide (((l1.2.2 : Nat) : Int) < (IntKind.wrap .i64 (((l1.2.1 : Nat) : Int) + ((l3.2.1 : Nat) : Int))))) (RQ (0 ≤ (n2 : Int) ∧ (n2 : Int) ≤ ((l1.2.2 : Nat) : Int)) (RQ (0 ≤ (IntKind.wrap .i64 ((IntKind.wrap .i64 (((l1.2.1 : Nat) : Int) + ((l3.2.1 : Nat) : Int))) - n2) : Int) ∧ (IntKind.wrap .i64 ((IntKind.wrap .i64 (((l1.2.1 : Nat) : Int) + ((l3.2.1 : Nat) : Int))) - n2) : Int) ≤ 9223372036854775807 ∧ IntKind.i64 = .i64 ∧ (IntKind.wrap .i64 ((IntKind.wrap .i64 (((l1.2.1 : Nat) : Int) + ((l3.2.1 : Nat) : Int))) - n2) : Int) * ((16 : Nat) : Int) ≤ 281474976710656 ∧ (2 : Nat) ≠ 0 ∧ (((slSub l1 0 ((n2 : Int).toNat) 2).2.1 : Nat) : Int) + (IntKind.wrap .i64 ((IntKind.wrap .i64 (((l1.2.1 : Nat) : Int) + ((l3.2.1 : Nat) : Int))) - n2) : Int) ≤ 9223372036854775807) (APP 72 2 16 #[.int .i64 0, .int .i64 0] (slSub l1 0 ((n2 : Int).toNat) 2) (Int.toNat (IntKind.wrap .i64 ((IntKind.wrap .i64 (((l1.2.1 : Nat) : Int) + ((l3.2.1 : Nat) : Int))) - n2) : Int)) (fun _ => some (zeroCellsL #[.int .i64 0, .int .i64 0] (Int.toNat (IntKind.wrap .i64 ((IntKind.wrap .i64 (((l1.2.1 : Nat) : Int) + ((l3.2.1 : Nat) : Int))) - n2) : Int)))) (fun l5 w => RQ (0 ≤ (n2 : Int) ∧ (n2 : Int) ≤ ((l5.2.1 : Nat) : Int)) (CPY 2 (slSub l5 ((n2 : Int).toNat) l5.2.1 2) l3 (fun n6 w => DR (fun w => RQ (0 ≤ (IntKind.wrap .i64 (n2 + ((l3.2.1 : Nat) : Int)) : Int) ∧ (IntKind.wrap .i64 (n2 + ((l3.2.1 : Nat) : Int)) : Int) ≤ ((l5.2.1 : Nat) : Int)) (RQ (0 ≤ (n2 : Int) ∧ (n2 : Int) ≤ ((l1.2.1 : Nat) : Int)) (CPY 2 (slSub l5 ((IntKind.wrap .i64 (n2 + ((l3.2.1 : Nat) : Int)) : Int).toNat) l5.2.1 2) (slSub l1 ((n2 : Int).toNat) l1.2.1 2) (fun n7 w => k (slv l5) w) w))) w) w)) w))) (RQ (0 ≤ (IntKind.wrap .i64 (((l1.2.1 : Nat) : Int) + ((l3.2.1 : Nat) : Int)) : Int) ∧ (IntKind.wrap .i64 (((l1.2.1 : Nat) : Int) + ((l3.2.1 : Nat) : Int)) : Int) ≤ ((l1.2.2 : Nat) : Int)) (RQ (0 ≤ (IntKind.wrap .i64 (n2 + ((l3.2.1 : Nat) : Int)) : Int) ∧ (IntKind.wrap .i64 (n2 + ((l3.2.1 : Nat) : Int)) : Int) ≤ (((slSub l1 0 ((IntKind.wrap .i64 (((l1.2.1 : Nat) : Int) + ((l3.2.1 : Nat) : Int)) : Int).toNat) 2).2.1 : Nat) : Int)) (CALL Try.prog 42 #[slv l3, slv (slSub (slSub l1 0 ((IntKind.wrap .i64 (((l1.2.1 : Nat) : Int) + ((l3.2.1 : Nat) : Int)) : Int).toNat) 2) ((IntKind.wrap .i64 (n2 + ((l3.2.1 : Nat) : Int)) : Int).toNat) ((slSub l1 0 ((IntKind.wrap .i64 (((l1.2.1 : Nat) : Int) + ((l3.2.1 : Nat) : Int)) : Int).toNat) 2).2.1) 2)] (fun v8 w => ∃ b9 : Bool, v8 = .bool b9 ∧ brK (!b9) (DR (fun w => RQ (0 ≤ (IntKind.wrap .i64 (n2 + ((l3.2.1 : Nat) : Int)) : Int) ∧ (IntKind.wrap .i64 (n2 + ((l3.2.1 : Nat) : Int)) : Int) ≤ (((slSub l1 0 ((IntKind.wrap .i64 (((l1.2.1 : Nat) : Int) + ((l3.2.1 : Nat) : Int)) : Int).toNat) 2).2.1 : Nat) : Int)) (RQ (0 ≤ (n2 : Int) ∧ (n2 : Int) ≤ (((slSub l1 0 ((IntKind.wrap .i64 (((l1.2.1 : Nat) : Int) + ((l3.2.1 : Nat) : Int)) : Int).toNat) 2).2.1 : Nat) : Int)) (CPY 2 (slSub (slSub l1 0 ((IntKind.wrap .i64 (((l1.2.1 : Nat) : Int) + ((l3.2.1 : Nat) : Int)) : Int).toNat) 2) ((IntKind.wrap .i64 (n2 + ((l3.2.1 : Nat) : Int)) : Int).toNat) ((slSub l1 0 ((IntKind.wrap .i64 (((l1.2.1 : Nat) : Int) + ((l3.2.1 : Nat) : Int)) : Int).toNat) 2).2.1) 2) (slSub (slSub l1 0 ((IntKind.wrap .i64 (((l1.2.1 : Nat) : Int) + ((l3.2.1 : Nat) : Int)) : Int).toNat) 2) ((n2 : Int).toNat) ((slSub l1 0 ((IntKind.wrap .i64 (((l1.2.1 : Nat) : Int) + ((l3.2.1 : Nat) : Int)) : Int).toNat) 2).2.1) 2) (fun n10 w => RQ (0 ≤ (n2 : Int) ∧ (n2 : Int) ≤ (((slSub l1 0 ((IntKind.wrap .i64 (((l1.2.1 : Nat) : Int) + ((l3.2.1 : Nat) : Int)) : Int).toNat) 2).2.1 : Nat) : Int)) (CPY 2 (slSub (slSub l1 0 ((IntKind.wrap .i64 (((l1.2.1 : Nat) : Int) + ((l3.2.1 : Nat) : Int)) : Int).toNat) 2) ((n2 : Int).toNat) ((slSub l1 0 ((IntKind.wrap .i64 (((l1.2.1 : Nat) : Int) + ((l3.2.1 : Nat) : Int)) : Int).toNat) 2).2.1) 2) l3 (fun n11 w => k (slv (slSub l1 0 ((IntKind.wrap .i64 (((l1.2.1 : Nat) : Int) + ((l3.2.1 : Nat) : Int)) : Int).toNat) 2)) w) w)) w))) w) (RQ (0 ≤ (((l1.2.1 : Nat) : Int) : Int) ∧ (((l1.2.1 : Nat) : Int) : Int) ≤ (((slSub l1 0 ((IntKind.wrap .i64 (((l1.2.1 : Nat) : Int) + ((l3.2.1 : Nat) : Int)) : Int).toNat) 2).2.1 : Nat) : Int)) (CPY 2 (slSub (slSub l1 0 ((IntKind.wrap .i64 (((l1.2.1 : Nat) : Int) + ((l3.2.1 : Nat) : Int)) : Int).toNat) 2) ((((l1.2.1 : Nat) : Int) : Int).toNat) ((slSub l1 0 ((IntKind.wrap .i64 (((l1.2.1 : Nat) : Int) + ((l3.2.1 : Nat) : Int)) : Int).toNat) 2).2.1) 2) l3 (fun n12 w => RQ (0 ≤ (n2 : Int) ∧ (n2 : Int) ≤ (((slSub l1 0 ((IntKind.wrap .i64 (((l1.2.1 : Nat) : Int) + ((l3.2.1 : Nat) : Int)) : Int).toNat) 2).2.1 : Nat) : Int)) (CALL Try.prog 43 #[slv (slSub (slSub l1 0 ((IntKind.wrap .i64 (((l1.2.1 : Nat) : Int) + ((l3.2.1 : Nat) : Int)) : Int).toNat) 2) ((n2 : Int).toNat) ((slSub l1 0 ((IntKind.wrap .i64 (((l1.2.1 : Nat) : Int) + ((l3.2.1 : Nat) : Int)) : Int).toNat) 2).2.1) 2), .int .i64 ((l3.2.1 : Nat) : Int)] (fun v13 w => v13 = .tuple #[] ∧ k (slv (slSub l1 0 ((IntKind.wrap .i64 (((l1.2.1 : Nat) : Int) + ((l3.2.1 : Nat) : Int)) : Int).toNat) 2)) w) w)) w))) w))))))
theorem f33.den (l1 : Sl) (n2 : Int) (l3 : Sl) (k : Value → World → Prop) (w : World) : pc Try.prog none .none f33.body (retQ Try.prog [.tmp 6] k) (fun _ => undef) 95 [94, 93, 92] [slv l1, .int .i64 n2, slv l3] [] w = f33.b l1 n2 l3 k w := by kernel_rfl
theorem f33.okc {k : Value → World → Prop} : okC Try.prog none .none f33.body (retQ Try.prog [.tmp 6] k) :=
  Eq.mpr (by kernel_rfl : okC Try.prog none .none f33.body (retQ Try.prog [.tmp 6] k) = (True)) (trivial)
theorem f33.call {l1 : Sl} {n2 : Int} {l3 : Sl} {k : Value → World → Prop} {w : World} (h : f33.b l1 n2 l3 k w) : CALL Try.prog 33 #[slv l1, .int .i64 n2, slv l3] k w :=
  calls_of_pc Try.mixed Try.func33 (by kernel_rfl : Try.f33.body = some f33.body) (Try.call33 _ _) (by kernel_rfl : #[slv l1, .int .i64 n2, slv l3] ++ Array.replicate (Try.f33.ntmps - (#[slv l1, .int .i64 n2, slv l3] : Array Value).size) undef = (FR (fun _ => undef) 95 [94, 93, 92] [slv l1, .int .i64 n2, slv l3]).toArray) (by kernel_rfl : Try.f33.results.toList = [.tmp 6]) f33.okc ((f33.den l1 n2 l3 k w).symm ▸ h)

/-! slices.Delete[[]rollcall/timer.item[int],rollcall/timer.item[int]] -/
noncomputable def f34.body : Code := (Try.f34.body).getD .skip
def f34.b (l1 : Sl) (n2 : Int) (n3 : Int) (k : Value → World → Prop) (w : World) : Prop :=
  RQ (0 ≤ (((l1.2.1 : Nat) : Int) : Int) ∧ (((l1.2.1 : Nat) : Int) : Int) ≤ ((l1.2.2 : Nat) : Int)) (RQ (0 ≤ (n3 : Int) ∧ (n3 : Int) ≤ (((((l1.2.1 : Nat) : Int) : Int).toNat : Nat) : Int)) (RQ (0 ≤ (n2 : Int) ∧ (n2 : Int) ≤ (((n3 : Int).toNat : Nat) : Int)) (brK (n2 == n3) (k (slv l1) w) (DR (fun w => RQ (0 ≤ (n2 : Int) ∧ (n2 : Int) ≤ ((l1.2.2 : Nat) : Int)) (RQ (0 ≤ (n3 : Int) ∧ (n3 : Int) ≤ ((l1.2.1 : Nat) : Int)) (APP 72 2 16 #[.int .i64 0, .int .i64 0] (slSub l1 0 ((n2 : Int).toNat) 2) ((slSub l1 ((n3 : Int).toNat) l1.2.1 2).2.1) (fun w => cellsOfS w (slSub l1 ((n3 : Int).toNat) l1.2.1 2) (((slSub l1 ((n3 : Int).toNat) l1.2.1 2).2.1) * 2)) (fun l4 w => RQ (0 ≤ (((l1.2.1 : Nat) : Int) : Int) ∧ (((l1.2.1 : Nat) : Int) : Int) ≤ ((l4.2.2 : Nat) : Int)) (RQ (0 ≤ (((l4.2.1 : Nat) : Int) : Int) ∧ (((l4.2.1 : Nat) : Int) : Int) ≤ (((((l1.2.1 : Nat) : Int) : Int).toNat : Nat) : Int)) (CLR #[.int .i64 0, .int .i64 0] (slSub l4 ((((l4.2.1 : Nat) : Int) : Int).toNat) ((((l1.2.1 : Nat) : Int) : Int).toNat) 2) (fun w => k (slv l4) w) w))) w))) w))))
theorem f34.den (l1 : Sl) (n2 : Int) (n3 : Int) (k : Value → World → Prop) (w : World) : pc Try.prog none .none f34.body (retQ Try.prog [.tmp 6] k) (fun _ => undef) 33 [32, 31, 30] [slv l1, .int .i64 n2, .int .i64 n3] [] w = f34.b l1 n2 n3 k w := by kernel_rfl
theorem f34.okc {k : Value → World → Prop} : okC Try.prog none .none f34.body (retQ Try.prog [.tmp 6] k) :=
  Eq.mpr (by kernel_rfl : okC Try.prog none .none f34.body (retQ Try.prog [.tmp 6] k) = (True)) (trivial)
theorem f34.call {l1 : Sl} {n2 : Int} {n3 : Int} {k : Value → World → Prop} {w : World} (h : f34.b l1 n2 n3 k w) : CALL Try.prog 34 #[slv l1, .int .i64 n2, .int .i64 n3] k w :=
  calls_of_pc Try.mixed Try.func34 (by kernel_rfl : Try.f34.body = some f34.body) (Try.call34 _ _) (by kernel_rfl : #[slv l1, .int .i64 n2, .int .i64 n3] ++ Array.replicate (Try.f34.ntmps - (#[slv l1, .int .i64 n2, .int .i64 n3] : Array Value).size) undef = (FR (fun _ => undef) 33 [32, 31, 30] [slv l1, .int .i64 n2, .int .i64 n3]).toArray) (by kernel_rfl : Try.f34.results.toList = [.tmp 6]) f34.okc ((f34.den l1 n2 n3 k w).symm ▸ h)

/-! slices.Clone[[]rollcall/timer.item[int],rollcall/timer.item[int]] -/
noncomputable def f35.body : Code := (Try.f35.body).getD .skip
def f35.b (l1 : Sl) (k : Value → World → Prop) (w : World) : Prop :=
  brK l1.1.isNone (k (slv (none, 0, 0)) w) (AL (.cells #[] 72) (fun q2 w => APP 72 2 16 #[.int .i64 0, .int .i64 0] ((some ⟨q2, 0, none⟩), 0, 0) l1.2.1 (fun w => cellsOfS w l1 (l1.2.1 * 2)) (fun l3 w => k (slv l3) w) w) w)
theorem f35.den (l1 : Sl) (k : Value → World → Prop) (w : World) : pc Try.prog none .none f35.body (retQ Try.prog [.tmp 2] k) (fun _ => undef) 8 [7] [slv l1] [] w = f35.b l1 k w := by kernel_rfl
theorem f35.okc {k : Value → World → Prop} : okC Try.prog none .none f35.body (retQ Try.prog [.tmp 2] k) :=
  Eq.mpr (by kernel_rfl : okC Try.prog none .none f35.body (retQ Try.prog [.tmp 2] k) = (True)) (trivial)
theorem f35.call {l1 : Sl} {k : Value → World → Prop} {w : World} (h : f35.b l1 k w) : CALL Try.prog 35 #[slv l1] k w :=
  calls_of_pc Try.mixed Try.func35 (by kernel_rfl : Try.f35.body = some f35.body) (Try.call35 _ _) (by kernel_rfl : #[slv l1] ++ Array.replicate (Try.f35.ntmps - (#[slv l1] : Array Value).size) undef = (FR (fun _ => undef) 8 [7] [slv l1]).toArray) (by kernel_rfl : Try.f35.results.toList = [.tmp 2]) f35.okc ((f35.den l1 k w).symm ▸ h)

/-! (*rollcall/timer.Table[int]).Due$1 -/
noncomputable def f36.body : Code := (Try.f36.body).getD .skip
def f36.Q1 (k : Value → World → Prop) : Exit → Act → World → Prop := (Exit.inBlock 0 (retQ Try.prog [] k))
def f36.L1k (Kn1 : Value → Sl → Int → Int → World → Prop) : Act → World → Prop := PJ 19 [18, 13, 12, 11] fun us ds w => un us fun v4 us => un us fun v us => asS v fun l5 => un us fun v us => asI .i64 v fun n6 => un us fun v us => asI .i64 v fun n7 => nl us (dn ds (Kn1 v4 l5 n6 n7 w))
def f36.L1 (v4 : Value) (l5 : Sl) (n6 : Int) (n7 : Int) (Kn1 : Value → Sl → Int → Int → World → Prop) (k : Value → World → Prop) (w : World) : Prop :=
  brK (decide (n7 < n6)) (IX l5 n7 2 (fun a8 => LD (Value.int .i64) (Addr.add a8 0) (fun n9 w => LD (Value.int .i64) (Addr.add a8 1) (fun n10 w => AL (.cells #[.int .i64 0, .int .i64 0] 72) (fun q11 w => ST (Addr.add ⟨q11, 0, none⟩ 0) (.int .i64 n9) (fun w => ST (Addr.add ⟨q11, 0, none⟩ 1) (.int .i64 n10) (fun w => LD (Value.int .i64) (Addr.add ⟨q11, 0, none⟩ 0) (fun n12 w => LD (Value.int .i64) (Addr.add ⟨q11, 0, none⟩ 1) (fun n13 w => DYN Try.prog v4 #[.int .i64 n12, .int .i64 n13] (fun v14 w => ∃ b15 : Bool, v14 = .bool b15 ∧ brK (!b15) (k (.tuple #[]) w) (Kn1 v4 l5 n6 (IntKind.wrap .i64 (n7 + 1)) w)) w) w) w) w) w) w) w) w)) (k (.tuple #[]) w)
def f36.L1lp (v4 : Value) (l5 : Sl) (n6 : Int) (n7 : Int) (k : Value → World → Prop) (w : World) : Prop := ∀ D : Nat → Value, (Code.loop (codeAt f36.body [1, 0, 0])).wpIn (Wd none) 0 Try.prog (f36.Q1 k) (fr D 19 [18, 13, 12, 11] [v4, slv l5, .int .i64 n6, .int .i64 n7] []) w
def f36.L1p (k : Value → World → Prop) : Act → World → Prop := PJ 19 [18, 13, 12, 11] fun us ds w => un us fun v4 us => un us fun v us => asS v fun l5 => un us fun v us => asI .i64 v fun n6 => un us fun v us => asI .i64 v fun n7 => nl us (dn ds (f36.L1lp v4 l5 n6 n7 k w))
def f36.L1K (v4 : Value) (l5 : Sl) (n6 : Int) (I : Int → World → Prop) (μ : Int → World → Nat) (m : Nat) (v4' : Value) (l5' : Sl) (n6' : Int) (n7' : Int) (w : World) : Prop := (v4' = v4 ∧ l5' = l5 ∧ n6' = n6) ∧ I n7' w ∧ μ n7' w < m
theorem f36.L1_next {v4 : Value} {l5 : Sl} {n6 : Int} {I : Int → World → Prop} {μ : Int → World → Nat} {m : Nat} {n7 : Int} {w : World} (hI : I n7 w) (hlt : μ n7 w < m) : f36.L1K v4 l5 n6 I μ m v4 l5 n6 n7 w := ⟨⟨rfl, rfl, rfl⟩, hI, hlt⟩
theorem f36.L1_den (D : Nat → Value) (v4 : Value) (l5 : Sl) (n6 : Int) (n7 : Int) (Kn1 : Value → Sl → Int → Int → World → Prop) (k : Value → World → Prop) (w : World) : pc Try.prog none .none (codeAt f36.body [1, 0, 0]) (Exit.then (f36.L1k Kn1) (f36.Q1 k)) D 19 [18, 13, 12, 11] [v4, slv l5, .int .i64 n6, .int .i64 n7] [] w = f36.L1 v4 l5 n6 n7 Kn1 k w := by kernel_rfl
theorem f36.L1_okc {Kn1 : Value → Sl → Int → Int → World → Prop} {k : Value → World → Prop} : okC Try.prog none .none (codeAt f36.body [1, 0, 0]) (Exit.then (f36.L1k Kn1) (f36.Q1 k)) :=
  Eq.mpr (by kernel_rfl : okC Try.prog none .none (codeAt f36.body [1, 0, 0]) (Exit.then (f36.L1k Kn1) (f36.Q1 k)) = (True)) (trivial)
theorem f36.L1_ok {k : Value → World → Prop} : OKJ Try.prog none (f36.L1p k) (codeAt f36.body [1, 0]) (f36.Q1 k) := by
  intro a w h
  obtain ⟨D, us, ds, rfl, h0⟩ := PJ_out h
  obtain ⟨v4, us, rfl, h1⟩ := un_out h0
  obtain ⟨v, us, rfl, h2⟩ := un_out h1
  obtain ⟨l5, rfl, h3⟩ := asS_out h2
  obtain ⟨v, us, rfl, h4⟩ := un_out h3
  obtain ⟨n6, rfl, h5⟩ := asI_out h4
  obtain ⟨v, us, rfl, h6⟩ := un_out h5
  obtain ⟨n7, rfl, h7⟩ := asI_out h6
  obtain ⟨rfl, h8⟩ := nl_out h7
  obtain ⟨rfl, h9⟩ := dn_out h8
  rw [show (codeAt f36.body [1, 0]) = Code.loop (codeAt f36.body [1, 0, 0]) by kernel_rfl]
  exact h9 D
theorem f36.L1_rule {v4 : Value} {l5 : Sl} {n6 : Int} {k : Value → World → Prop} (I : Int → World → Prop) (μ : Int → World → Nat) {n7 : Int} {w : World} (h0 : I n7 w)
    (hr : ∀ (n7 : Int) (w : World), I n7 w → f36.L1 v4 l5 n6 n7 (f36.L1K v4 l5 n6 I μ (μ n7 w)) k w) : f36.L1lp v4 l5 n6 n7 k w := by
  intro D0
  refine loop_ind (P := Try.prog) (fun m a w => ∃ n7 : Int, ∃ D : Nat → Value, a = fr D 19 [18, 13, 12, 11] [v4, slv l5, .int .i64 n6, .int .i64 n7] [] ∧ I n7 w ∧ μ n7 w = m) ?_ (μ n7 w) ⟨_, D0, rfl, h0, rfl⟩
  rintro m a w ⟨n7, D, rfl, hI, rfl⟩
  have h := hr n7 w hI
  rw [← f36.L1_den D v4 l5 n6 n7 (f36.L1K v4 l5 n6 I μ (μ n7 w)) k w] at h
  refine then_mono (pc_wp Try.mixed f36.L1_okc h) ?_
  clear h
  intro a w h
  obtain ⟨D, us, ds, rfl, h0⟩ := PJ_out h
  obtain ⟨v4', us, rfl, h1⟩ := un_out h0
  obtain ⟨v, us, rfl, h2⟩ := un_out h1
  obtain ⟨l5', rfl, h3⟩ := asS_out h2
  obtain ⟨v, us, rfl, h4⟩ := un_out h3
  obtain ⟨n6', rfl, h5⟩ := asI_out h4
  obtain ⟨v, us, rfl, h6⟩ := un_out h5
  obtain ⟨n7', rfl, h7⟩ := asI_out h6
  obtain ⟨rfl, h8⟩ := nl_out h7
  obtain ⟨rfl, h9⟩ := dn_out h8
  obtain ⟨⟨rfl, rfl, rfl⟩, hI, hlt⟩ := h9
  exact ⟨_, hlt, _, D, rfl, hI, rfl⟩
def f36.b (v1 : Value) (q2 : Nat) (k : Value → World → Prop) (w : World) : Prop :=
  LD slv ⟨q2, 0, none⟩ (fun l3 w => f36.L1lp v1 l3 ((l3.2.1 : Nat) : Int) 0 k w) w
theorem f36.den (v1 : Value) (q2 : Nat) (k : Value → World → Prop) (w : World) : pc Try.prog none (.seq none .none (.block (.at (f36.L1p k)))) f36.body (retQ Try.prog [] k) (fun _ => undef) 19 [18, 17] [v1, .pointer (some ⟨q2, 0, none⟩)] [] w = f36.b v1 q2 k w := by kernel_rfl
theorem f36.okc {k : Value → World → Prop} : okC Try.prog none (.seq none .none (.block (.at (f36.L1p k)))) f36.body (retQ Try.prog [] k) :=
  Eq.mpr (by kernel_rfl : okC Try.prog none (.seq none .none (.block (.at (f36.L1p k)))) f36.body (retQ Try.prog [] k) = (((True) ∧ (OKJ Try.prog none (f36.L1p k) (codeAt f36.body [1, 0]) (f36.Q1 k))))) (⟨trivial, f36.L1_ok⟩)
theorem f36.call {v1 : Value} {q2 : Nat} {k : Value → World → Prop} {w : World} (h : f36.b v1 q2 k w) : CALL Try.prog 36 #[v1, .pointer (some ⟨q2, 0, none⟩)] k w :=
  calls_of_pc Try.mixed Try.func36 (by kernel_rfl : Try.f36.body = some f36.body) (Try.call36 _ _) (by kernel_rfl : #[v1, .pointer (some ⟨q2, 0, none⟩)] ++ Array.replicate (Try.f36.ntmps - (#[v1, .pointer (some ⟨q2, 0, none⟩)] : Array Value).size) undef = (FR (fun _ => undef) 19 [18, 17] [v1, .pointer (some ⟨q2, 0, none⟩)]).toArray) (by kernel_rfl : Try.f36.results.toList = []) f36.okc ((f36.den v1 q2 k w).symm ▸ h)

/-! slices.rotateRight[rollcall/timer.item[int]] -/
noncomputable def f43.body : Code := (Try.f43.body).getD .skip
def f43.b (l1 : Sl) (n2 : Int) (k : Value → World → Prop) (w : World) : Prop :=
  CALL Try.prog 48 #[slv l1, .int .i64 (IntKind.wrap .i64 (((l1.2.1 : Nat) : Int) - n2))] (fun v3 w => v3 = .tuple #[] ∧ k (.tuple #[]) w) w
theorem f43.den (l1 : Sl) (n2 : Int) (k : Value → World → Prop) (w : World) : pc Try.prog none .none f43.body (retQ Try.prog [] k) (fun _ => undef) 10 [9, 8] [slv l1, .int .i64 n2] [] w = f43.b l1 n2 k w := by kernel_rfl
theorem f43.okc {k : Value → World → Prop} : okC Try.prog none .none f43.body (retQ Try.prog [] k) :=
  Eq.mpr (by kernel_rfl : okC Try.prog none .none f43.body (retQ Try.prog [] k) = (True)) (trivial)
theorem f43.call {l1 : Sl} {n2 : Int} {k : Value → World → Prop} {w : World} (h : f43.b l1 n2 k w) : CALL Try.prog 43 #[slv l1, .int .i64 n2] k w :=
  calls_of_pc Try.mixed Try.func43 (by kernel_rfl : Try.f43.body = some f43.body) (Try.call43 _ _) (by kernel_rfl : #[slv l1, .int .i64 n2] ++ Array.replicate (Try.f43.ntmps - (#[slv l1, .int .i64 n2] : Array Value).size) undef = (FR (fun _ => undef) 10 [9, 8] [slv l1, .int .i64 n2]).toArray) (by kernel_rfl : Try.f43.results.toList = []) f43.okc ((f43.den l1 n2 k w).symm ▸ h)

/-! slices.AppendSeq[[]int,int] -/
noncomputable def f44.body : Code := (Try.f44.body).getD .skip
def f44.J1 (q8 : Nat) (k : Value → World → Prop) (ds : List Deferred) (w : World) : Prop :=
  LD slv ⟨q8, 0, none⟩ (fun l9 w => closeD (fun w => k (slv l9) w) ds w) w
def f44.J1p (k : Value → World → Prop) : Act → World → Prop := PJ 13 [10] fun us ds w => un us fun v us => asBox v fun q8 => nl us (f44.J1 q8 k ds w)
def f44.Q1 (k : Value → World → Prop) : Exit → Act → World → Prop := (Exit.inBlock 0 (Exit.then (f44.J1p k) (retQ Try.prog [.tmp 4] k)))
def f44.R2rf (q4 : Nat) (v5 : Value) (k : Value → World → Prop) (ds : List Deferred) (w : World) : Prop := ∀ D : Nat → Value, (Code.rangeFunc (.tmp 6) #[7] (codeAt f44.body [1, 0, 1, 0, 0]) (codeAt f44.body [1, 0, 1, 0, 1])).wpIn (Wd none) 0 Try.prog (f44.Q1 k) (fr D 13 [10, 6] [.pointer (some ⟨q4, 0, none⟩), v5] ds) w
def f44.R2p (k : Value → World → Prop) : Act → World → Prop := PJ 13 [10, 6] fun us ds w => un us fun v us => asBox v fun q4 => un us fun v5 us => nl us (f44.R2rf q4 v5 k ds w)
def f44.Q2 (k : Value → World → Prop) : Exit → Act → World → Prop := (retQ Try.prog [.tmp 4] k)
def f44.R2A (q6 : Nat) (v7 : Value) (k : Value → World → Prop) (ds : List Deferred) (w : World) : Prop :=
  f44.J1 q6 k ds w
def f44.R2b (q13 : Nat) (n14 : Int) (r : Option Nat) (q : Exit → World → Prop) (w : World) : Prop :=
  LD slv ⟨q13, 0, none⟩ (fun l15 w => AL (.cells #[.int .i64 n14] 3) (fun q16 w => APP 3 1 8 #[.int .i64 0] l15 1 (fun w => cellsOfS w ((some ⟨q16, 0, none⟩), 1, 1) (1 * 1)) (fun l17 w => ST (Addr.add ⟨q13, 0, none⟩ 0) (slv l17) (fun w => q .normal w) w) w) w) w
def f44.R2bp (r : Option Nat) (q : Exit → World → Prop) : Act → World → Prop := PJ 13 [10, 7] fun us ds w => un us fun v us => asBox v fun q13 => un us fun v us => asI .i64 v fun n14 => nl us (dn ds (f44.R2b q13 n14 r q w))
def f44.R2 (q10 : Nat) (n12 : Int) (r : Option Nat) (G : (World → Prop) → World → Prop) (q : Exit → World → Prop) (w : World) : Prop :=
  G (fun w => f44.R2b q10 n12 r q w) w
def f44.R2E (q4 : Nat) (v5 : Value) (k : Value → World → Prop) (ds : List Deferred) (rec : LoopState → Option Code → Loop) (L : Nat) (D : Nat) (w : World) : Prop :=
  (∃ l, SatL w (own Blk L (.loop (rec .ready none)) :: l) ∧ ∀ w, SatL w (own Blk L (.loop (rec .exhausted none)) :: l) → f44.R2A q4 v5 k ({ target := .collected D, args := #[] } :: ds) w)
theorem f44.R2_ok {k : Value → World → Prop} : OKJ Try.prog none (f44.R2p k) (codeAt f44.body [1, 0, 1, 0]) (f44.Q1 k) := by
  intro a w h
  obtain ⟨D, us, ds, rfl, h0⟩ := PJ_out h
  obtain ⟨v, us, rfl, h1⟩ := un_out h0
  obtain ⟨q4, rfl, h2⟩ := asBox_out h1
  obtain ⟨v5, us, rfl, h3⟩ := un_out h2
  obtain ⟨rfl, h4⟩ := nl_out h3
  rw [show (codeAt f44.body [1, 0, 1, 0]) = (Code.rangeFunc (.tmp 6) #[7] (codeAt f44.body [1, 0, 1, 0, 0]) (codeAt f44.body [1, 0, 1, 0, 1])) by kernel_rfl]
  exact h4 D
theorem f44.J1_den (D : Nat → Value) (q8 : Nat) (k : Value → World → Prop) (ds : List Deferred) (w : World) : pc Try.prog none .none (codeAt f44.body [1, 1]) (f44.Q2 k) D 13 [10] [.pointer (some ⟨q8, 0, none⟩)] ds w = f44.J1 q8 k ds w := by kernel_rfl
theorem f44.J1_okc {k : Value → World → Prop} : okC Try.prog none .none (codeAt f44.body [1, 1]) (f44.Q2 k) :=
  Eq.mpr (by kernel_rfl : okC Try.prog none .none (codeAt f44.body [1, 1]) (f44.Q2 k) = (True)) (trivial)
theorem f44.J1_ok {k : Value → World → Prop} : OKJ Try.prog none (f44.J1p k) (codeAt f44.body [1, 1]) (f44.Q2 k) := by
  intro a w h
  obtain ⟨D, us, ds, rfl, h0⟩ := PJ_out h
  obtain ⟨v, us, rfl, h1⟩ := un_out h0
  obtain ⟨q8, rfl, h2⟩ := asBox_out h1
  obtain ⟨rfl, h3⟩ := nl_out h2
  rw [← f44.J1_den D q8 k ds w] at h3
  exact pc_wp Try.mixed f44.J1_okc h3
theorem f44.R2A_den (D : Nat → Value) (q6 : Nat) (v7 : Value) (k : Value → World → Prop) (ds : List Deferred) (w : World) : spK (FR D 13 [10, 6] [.pointer (some ⟨q6, 0, none⟩), v7]) (fun l => (f44.Q1 k) .normal { tmps := l.toArray, defers := ds } w) = f44.R2A q6 v7 k ds w := by kernel_rfl
theorem f44.R2b_den (D : Nat → Value) (q13 : Nat) (n14 : Int) (r : Option Nat) (q : Exit → World → Prop) (w : World) : pc Try.prog r .none (codeAt f44.body [1, 0, 1, 0, 1]) (fun e _ w => q e w) D 13 [10, 7] [.pointer (some ⟨q13, 0, none⟩), .int .i64 n14] [] w = f44.R2b q13 n14 r q w := by kernel_rfl
theorem f44.R2b_okc {r : Option Nat} {q : Exit → World → Prop} : okC Try.prog r .none (codeAt f44.body [1, 0, 1, 0, 1]) (fun e _ w => q e w) :=
  Eq.mpr (by kernel_rfl : okC Try.prog r .none (codeAt f44.body [1, 0, 1, 0, 1]) (fun e _ w => q e w) = (True)) (trivial)
theorem f44.R2b_ok {r : Option Nat} {q : Exit → World → Prop} : OKJ Try.prog r (f44.R2bp r q) (codeAt f44.body [1, 0, 1, 0, 1]) (fun e _ w => q e w) := by
  intro a w h
  obtain ⟨D, us, ds, rfl, h0⟩ := PJ_out h
  obtain ⟨v, us, rfl, h1⟩ := un_out h0
  obtain ⟨q13, rfl, h2⟩ := asBox_out h1
  obtain ⟨v, us, rfl, h3⟩ := un_out h2
  obtain ⟨n14, rfl, h4⟩ := asI_out h3
  obtain ⟨rfl, h5⟩ := nl_out h4
  obtain ⟨rfl, h6⟩ := dn_out h5
  rw [← f44.R2b_den D q13 n14 r q w] at h6
  exact pc_wp Try.mixed f44.R2b_okc h6
theorem f44.R2_den (D : Nat → Value) (q10 : Nat) (v11 : Value) (n12 : Int) (r : Option Nat) (G : (World → Prop) → World → Prop) (q : Exit → World → Prop) (w : World) : spK (FR D 13 [10, 6, 5] [.pointer (some ⟨q10, 0, none⟩), v11, .int .i64 n12]) (fun l => den Try.prog r (codeAt f44.body [1, 0, 1, 0, 0]) (Exit.then (fun a w => G (fun w => f44.R2bp r q a w) w) (fun _ _ _ => False)) { tmps := l.toArray, defers := [] } w) = f44.R2 q10 n12 r G q w := by kernel_rfl
theorem f44.R2_rule {q4 : Nat} {v5 : Value} {k : Value → World → Prop} {w : World} {l : List HProp} {gf : Nat} {first cap : Array Value} {ds : List Deferred} (hv : v5 = .func (.func gf) first cap) (hent : ∀ args w, (callFunc gf args).run Try.prog w = .ok (.enter gf args) w) (hw : SatL w l)
    (h : ∀ (rec : LoopState → Option Code → Loop) (L D : Nat) (w : World), (∀ {n12 : Int} {K : Value → World → Prop} {w : World} {l : List HProp}, SatL w (own Blk L (.loop (rec .ready none)) :: l) → f44.R2 q4 n12 (some L) (BG L rec) (rdE L rec K) w → YLD Try.prog L #[.int .i64 n12] K w) → SatL w (own Blk L (.loop (rec .ready none)) :: own Blk D (.deferred (some [])) :: l) → CALL Try.prog gf (first.toList ++ [Value.func (.yield L) #[] #[]] ++ cap.toList).toArray (fun _ w => f44.R2E q4 v5 k ds rec L D w) w) :
    f44.R2rf q4 v5 k ds w := by
  subst hv
  intro D0
  refine RF_o rfl hent hw fun fn L D w1 h1 => ?_
  refine CALL.mono (h (recO fn _ _ _ _ D) L D w1 ?_ h1) ?_
  · intro n12 K w l hw h
    refine YLD_r (t := (FR D0 13 [10, 6, 5] [.pointer (some ⟨q4, 0, none⟩), .func (.func gf) first cap, .int .i64 n12]).toArray) hw rfl (by kernel_rfl) (round_ofP Try.mixed (f44.R2b_ok (r := some L)) ?_)
    rw [← f44.R2_den D0 q4 _ n12, spK_eq] at h
    exact h
  · rintro _ w2 h2
    unfold f44.R2E at h2
    rcases h2 with ⟨l2, h3, h4⟩
    · exact .inl ⟨l2, h3, fun w' h5 => by have h6 := h4 w' h5; rw [← f44.R2A_den D0 q4 _ k ({ target := .collected D, args := #[] } :: ds), spK_eq] at h6; exact h6⟩
def f44.b (l1 : Sl) (v2 : Value) (k : Value → World → Prop) (w : World) : Prop :=
  AL (.cells #[slv l1] 61) (fun q3 w => f44.R2rf q3 v2 k [] w) w
theorem f44.den (l1 : Sl) (v2 : Value) (k : Value → World → Prop) (w : World) : pc Try.prog none (.seq none .none (.seq (some (f44.J1p k)) (.seq none .none (.block (.at (f44.R2p k)))) .none)) f44.body (retQ Try.prog [.tmp 4] k) (fun _ => undef) 13 [12, 11] [slv l1, v2] [] w = f44.b l1 v2 k w := by kernel_rfl
theorem f44.okc {k : Value → World → Prop} : okC Try.prog none (.seq none .none (.seq (some (f44.J1p k)) (.seq none .none (.block (.at (f44.R2p k)))) .none)) f44.body (retQ Try.prog [.tmp 4] k) :=
  Eq.mpr (by kernel_rfl : okC Try.prog none (.seq none .none (.seq (some (f44.J1p k)) (.seq none .none (.block (.at (f44.R2p k)))) .none)) f44.body (retQ Try.prog [.tmp 4] k) = (((True) ∧ (((((True) ∧ (OKJ Try.prog none (f44.R2p k) (codeAt f44.body [1, 0, 1, 0]) (f44.Q1 k)))) ∧ OKJ Try.prog none (f44.J1p k) (codeAt f44.body [1, 1]) (f44.Q2 k)))))) (⟨trivial, ⟨⟨trivial, f44.R2_ok⟩, f44.J1_ok⟩⟩)
theorem f44.call {l1 : Sl} {v2 : Value} {k : Value → World → Prop} {w : World} (h : f44.b l1 v2 k w) : CALL Try.prog 44 #[slv l1, v2] k w :=
  calls_of_pc Try.mixed Try.func44 (by kernel_rfl : Try.f44.body = some f44.body) (Try.call44 _ _) (by kernel_rfl : #[slv l1, v2] ++ Array.replicate (Try.f44.ntmps - (#[slv l1, v2] : Array Value).size) undef = (FR (fun _ => undef) 13 [12, 11] [slv l1, v2]).toArray) (by kernel_rfl : Try.f44.results.toList = [.tmp 4]) f44.okc ((f44.den l1 v2 k w).symm ▸ h)

/-! slices.rotateLeft[rollcall/timer.item[int]] -/
noncomputable def f48.body : Code := (Try.f48.body).getD .skip
def f48.b (l1 : Sl) (n2 : Int) (k : Value → World → Prop) (w : World) : Prop :=
  RQ (0 ≤ (n2 : Int) ∧ (n2 : Int) ≤ ((l1.2.2 : Nat) : Int)) (CALL Try.prog 60 #[slv (slSub l1 0 ((n2 : Int).toNat) 2)] (fun v3 w => v3 = .tuple #[] ∧ RQ (0 ≤ (n2 : Int) ∧ (n2 : Int) ≤ ((l1.2.1 : Nat) : Int)) (CALL Try.prog 60 #[slv (slSub l1 ((n2 : Int).toNat) l1.2.1 2)] (fun v4 w => v4 = .tuple #[] ∧ CALL Try.prog 60 #[slv l1] (fun v5 w => v5 = .tuple #[] ∧ k (.tuple #[]) w) w) w)) w)
theorem f48.den (l1 : Sl) (n2 : Int) (k : Value → World → Prop) (w : World) : pc Try.prog none .none f48.body (retQ Try.prog [] k) (fun _ => undef) 14 [13, 12] [slv l1, .int .i64 n2] [] w = f48.b l1 n2 k w := by kernel_rfl
theorem f48.okc {k : Value → World → Prop} : okC Try.prog none .none f48.body (retQ Try.prog [] k) :=
  Eq.mpr (by kernel_rfl : okC Try.prog none .none f48.body (retQ Try.prog [] k) = (True)) (trivial)
theorem f48.call {l1 : Sl} {n2 : Int} {k : Value → World → Prop} {w : World} (h : f48.b l1 n2 k w) : CALL Try.prog 48 #[slv l1, .int .i64 n2] k w :=
  calls_of_pc Try.mixed Try.func48 (by kernel_rfl : Try.f48.body = some f48.body) (Try.call48 _ _) (by kernel_rfl : #[slv l1, .int .i64 n2] ++ Array.replicate (Try.f48.ntmps - (#[slv l1, .int .i64 n2] : Array Value).size) undef = (FR (fun _ => undef) 14 [13, 12] [slv l1, .int .i64 n2]).toArray) (by kernel_rfl : Try.f48.results.toList = []) f48.okc ((f48.den l1 n2 k w).symm ▸ h)

/-! slices.Reverse[[]rollcall/timer.item[int],rollcall/timer.item[int]] -/
noncomputable def f60.body : Code := (Try.f60.body).getD .skip
def f60.Q1 (k : Value → World → Prop) : Exit → Act → World → Prop := (Exit.inBlock 0 (retQ Try.prog [] k))
def f60.L1k (Kn1 : Sl → Int → Int → World → Prop) : Act → World → Prop := PJ 28 [27, 25, 24] fun us ds w => un us fun v us => asS v fun l2 => un us fun v us => asI .i64 v fun n3 => un us fun v us => asI .i64 v fun n4 => nl us (dn ds (Kn1 l2 n3 n4 w))
def f60.L1 (l2 : Sl) (n3 : Int) (n4 : Int) (Kn1 : Sl → Int → Int → World → Prop) (k : Value → World → Prop) (w : World) : Prop :=
  brK (decide (n3 < n4)) (DR (fun w => IX l2 n4 2 (fun a5 => LD (Value.int .i64) (Addr.add a5 0) (fun n6 w => LD (Value.int .i64) (Addr.add a5 1) (fun n7 w => IX l2 n3 2 (fun a8 => LD (Value.int .i64) (Addr.add a8 0) (fun n9 w => LD (Value.int .i64) (Addr.add a8 1) (fun n10 w => IX l2 n3 2 (fun a11 => ST (Addr.add a11 0) (.int .i64 n6) (fun w => ST (Addr.add a11 1) (.int .i64 n7) (fun w => IX l2 n4 2 (fun a12 => ST (Addr.add a12 0) (.int .i64 n9) (fun w => ST (Addr.add a12 1) (.int .i64 n10) (fun w => Kn1 l2 (IntKind.wrap .i64 (n3 + 1)) (IntKind.wrap .i64 (n4 - 1)) w) w) w)) w) w)) w) w)) w) w)) w) (k (.tuple #[]) w)
def f60.L1lp (l2 : Sl) (n3 : Int) (n4 : Int) (k : Value → World → Prop) (w : World) : Prop := ∀ D : Nat → Value, (Code.loop (codeAt f60.body [1, 0, 0])).wpIn (Wd none) 0 Try.prog (f60.Q1 k) (fr D 28 [27, 25, 24] [slv l2, .int .i64 n3, .int .i64 n4] []) w
def f60.L1p (k : Value → World → Prop) : Act → World → Prop := PJ 28 [27, 25, 24] fun us ds w => un us fun v us => asS v fun l2 => un us fun v us => asI .i64 v fun n3 => un us fun v us => asI .i64 v fun n4 => nl us (dn ds (f60.L1lp l2 n3 n4 k w))
def f60.L1K (l2 : Sl) (I : Int → Int → World → Prop) (μ : Int → Int → World → Nat) (m : Nat) (l2' : Sl) (n3' : Int) (n4' : Int) (w : World) : Prop := (l2' = l2) ∧ I n3' n4' w ∧ μ n3' n4' w < m
theorem f60.L1_next {l2 : Sl} {I : Int → Int → World → Prop} {μ : Int → Int → World → Nat} {m : Nat} {n3 : Int} {n4 : Int} {w : World} (hI : I n3 n4 w) (hlt : μ n3 n4 w < m) : f60.L1K l2 I μ m l2 n3 n4 w := ⟨rfl, hI, hlt⟩
theorem f60.L1_den (D : Nat → Value) (l2 : Sl) (n3 : Int) (n4 : Int) (Kn1 : Sl → Int → Int → World → Prop) (k : Value → World → Prop) (w : World) : pc Try.prog none .none (codeAt f60.body [1, 0, 0]) (Exit.then (f60.L1k Kn1) (f60.Q1 k)) D 28 [27, 25, 24] [slv l2, .int .i64 n3, .int .i64 n4] [] w = f60.L1 l2 n3 n4 Kn1 k w := by kernel_rfl
theorem f60.L1_okc {Kn1 : Sl → Int → Int → World → Prop} {k : Value → World → Prop} : okC Try.prog none .none (codeAt f60.body [1, 0, 0]) (Exit.then (f60.L1k Kn1) (f60.Q1 k)) :=
  Eq.mpr (by kernel_rfl : okC Try.prog none .none (codeAt f60.body [1, 0, 0]) (Exit.then (f60.L1k Kn1) (f60.Q1 k)) = (True)) (trivial)
theorem f60.L1_ok {k : Value → World → Prop} : OKJ Try.prog none (f60.L1p k) (codeAt f60.body [1, 0]) (f60.Q1 k) := by
  intro a w h
  obtain ⟨D, us, ds, rfl, h0⟩ := PJ_out h
  obtain ⟨v, us, rfl, h1⟩ := un_out h0
  obtain ⟨l2, rfl, h2⟩ := asS_out h1
  obtain ⟨v, us, rfl, h3⟩ := un_out h2
  obtain ⟨n3, rfl, h4⟩ := asI_out h3
  obtain ⟨v, us, rfl, h5⟩ := un_out h4
  obtain ⟨n4, rfl, h6⟩ := asI_out h5
  obtain ⟨rfl, h7⟩ := nl_out h6
  obtain ⟨rfl, h8⟩ := dn_out h7
  rw [show (codeAt f60.body [1, 0]) = Code.loop (codeAt f60.body [1, 0, 0]) by kernel_rfl]
  exact h8 D
theorem f60.L1_rule {l2 : Sl} {k : Value → World → Prop} (I : Int → Int → World → Prop) (μ : Int → Int → World → Nat) {n3 : Int} {n4 : Int} {w : World} (h0 : I n3 n4 w)
    (hr : ∀ (n3 : Int) (n4 : Int) (w : World), I n3 n4 w → f60.L1 l2 n3 n4 (f60.L1K l2 I μ (μ n3 n4 w)) k w) : f60.L1lp l2 n3 n4 k w := by
  intro D0
  refine loop_ind (P := Try.prog) (fun m a w => ∃ n3 : Int, ∃ n4 : Int, ∃ D : Nat → Value, a = fr D 28 [27, 25, 24] [slv l2, .int .i64 n3, .int .i64 n4] [] ∧ I n3 n4 w ∧ μ n3 n4 w = m) ?_ (μ n3 n4 w) ⟨_, _, D0, rfl, h0, rfl⟩
  rintro m a w ⟨n3, n4, D, rfl, hI, rfl⟩
  have h := hr n3 n4 w hI
  rw [← f60.L1_den D l2 n3 n4 (f60.L1K l2 I μ (μ n3 n4 w)) k w] at h
  refine then_mono (pc_wp Try.mixed f60.L1_okc h) ?_
  clear h
  intro a w h
  obtain ⟨D, us, ds, rfl, h0⟩ := PJ_out h
  obtain ⟨v, us, rfl, h1⟩ := un_out h0
  obtain ⟨l2', rfl, h2⟩ := asS_out h1
  obtain ⟨v, us, rfl, h3⟩ := un_out h2
  obtain ⟨n3', rfl, h4⟩ := asI_out h3
  obtain ⟨v, us, rfl, h5⟩ := un_out h4
  obtain ⟨n4', rfl, h6⟩ := asI_out h5
  obtain ⟨rfl, h7⟩ := nl_out h6
  obtain ⟨rfl, h8⟩ := dn_out h7
  obtain ⟨rfl, hI, hlt⟩ := h8
  exact ⟨_, hlt, _, _, D, rfl, hI, rfl⟩
def f60.b (l1 : Sl) (k : Value → World → Prop) (w : World) : Prop :=
  f60.L1lp l1 0 (IntKind.wrap .i64 (((l1.2.1 : Nat) : Int) - 1)) k w
theorem f60.den (l1 : Sl) (k : Value → World → Prop) (w : World) : pc Try.prog none (.seq none .none (.block (.at (f60.L1p k)))) f60.body (retQ Try.prog [] k) (fun _ => undef) 28 [27] [slv l1] [] w = f60.b l1 k w := by kernel_rfl
theorem f60.okc {k : Value → World → Prop} : okC Try.prog none (.seq none .none (.block (.at (f60.L1p k)))) f60.body (retQ Try.prog [] k) :=
  Eq.mpr (by kernel_rfl : okC Try.prog none (.seq none .none (.block (.at (f60.L1p k)))) f60.body (retQ Try.prog [] k) = (((True) ∧ (OKJ Try.prog none (f60.L1p k) (codeAt f60.body [1, 0]) (f60.Q1 k))))) (⟨trivial, f60.L1_ok⟩)
theorem f60.call {l1 : Sl} {k : Value → World → Prop} {w : World} (h : f60.b l1 k w) : CALL Try.prog 60 #[slv l1] k w :=
  calls_of_pc Try.mixed Try.func60 (by kernel_rfl : Try.f60.body = some f60.body) (Try.call60 _ _) (by kernel_rfl : #[slv l1] ++ Array.replicate (Try.f60.ntmps - (#[slv l1] : Array Value).size) undef = (FR (fun _ => undef) 28 [27] [slv l1]).toArray) (by kernel_rfl : Try.f60.results.toList = []) f60.okc ((f60.den l1 k w).symm ▸ h)
end Go.Proofs.Ytnaeabcaennbjaa
