/- Printed by gen2.py: the functions' bodies over the primitives of Den, in pieces. -/
import Derived.Test.YtnaeabcaennbjaaCut
import Derived.Test.YtnaeabcaennbjaaKit
namespace Go.Proofs.Ytnaeabcaennbjaa
open Go
set_option maxRecDepth 100000
set_option linter.unusedVariables false
/-! (*rollcall/timer.Table[int]).At -/
noncomputable def f24.body : Code := (Try.f24.body).getD .skip
def f24.b (p1 : Option Addr) (n2 : Int) (k : Value → World → Prop) (w : World) : Prop :=
  brK p1.isNone (k (.tuple #[.int .i64 0, .bool false]) w) (NN p1 (fun a3 => LD Value.map (Addr.add a3 1) (fun m4 w => LK m4 (.int .i64) (.int .i64 n2) (.int .i64 0) (fun v5 b6 w => ∃ n7 : Int, v5 = .int .i64 n7 ∧ k (.tuple #[.int .i64 n7, .bool b6]) w) w) w))
theorem f24.den (p1 : Option Addr) (n2 : Int) (k : Value → World → Prop) (w : World) : pc Try.prog none .none f24.body (retQ Try.prog [.tmp 4, .tmp 5] k) (fun _ => undef) 21 [20, 19] [.pointer p1, .int .i64 n2] [] w = f24.b p1 n2 k w := by kernel_rfl
theorem f24.okc {k : Value → World → Prop} : okC Try.prog none .none f24.body (retQ Try.prog [.tmp 4, .tmp 5] k) :=
  Eq.mpr (by kernel_rfl : okC Try.prog none .none f24.body (retQ Try.prog [.tmp 4, .tmp 5] k) = (True)) (trivial)
theorem f24.call {p1 : Option Addr} {n2 : Int} {k : Value → World → Prop} {w : World} (h : f24.b p1 n2 k w) : CALL Try.prog 24 #[.pointer p1, .int .i64 n2] k w :=
  calls_of_pc Try.mixed Try.func24 (by kernel_rfl : Try.f24.body = some f24.body) (Try.call24 _ _) (by kernel_rfl : #[.pointer p1, .int .i64 n2] ++ Array.replicate (Try.f24.ntmps - (#[.pointer p1, .int .i64 n2] : Array Value).size) undef = (FR (fun _ => undef) 21 [20, 19] [.pointer p1, .int .i64 n2]).toArray) (by kernel_rfl : Try.f24.results.toList = [.tmp 4, .tmp 5]) f24.okc ((f24.den p1 n2 k w).symm ▸ h)

/-! rollcall/timer.compare[int] -/
noncomputable def f32.body : Code := (Try.f32.body).getD .skip
def f32.b (n1 : Int) (n2 : Int) (n3 : Int) (n4 : Int) (k : Value → World → Prop) (w : World) : Prop :=
  AL (.cells #[.int .i64 n1, .int .i64 n2] 72) (fun q5 w => AL (.cells #[.int .i64 n3, .int .i64 n4] 72) (fun q6 w => DRC (fun C w => STL C (Value.int .i64) (Addr.add ⟨q5, 0, none⟩ 1) (fun n7 => STL C (Value.int .i64) (Addr.add ⟨q6, 0, none⟩ 1) (fun n8 => STL C (Value.int .i64) (Addr.add ⟨q5, 0, none⟩ 0) (fun n9 => STL C (Value.int .i64) (Addr.add ⟨q6, 0, none⟩ 0) (fun n10 => CALL Try.prog 41 #[.int .i64 n7, .int .i64 n8] (fun v11 w => ∃ n12 : Int, v11 = .int .i64 n12 ∧ C w ∧ CALL Try.prog 41 #[.int .i64 n9, .int .i64 n10] (fun v13 w => ∃ n14 : Int, v13 = .int .i64 n14 ∧ AL (.cells #[.int .i64 n12, .int .i64 n14] 3) (fun q15 w => CALL Try.prog 40 #[slv ((some ⟨q15, 0, none⟩), 2, 2)] (fun v16 w => ∃ n17 : Int, v16 = .int .i64 n17 ∧ k (.int .i64 n17) w) w) w) w) w))))) w) w) w
theorem f32.den (n1 : Int) (n2 : Int) (n3 : Int) (n4 : Int) (k : Value → World → Prop) (w : World) : pc Try.prog none .none f32.body (retQ Try.prog [.tmp 4] k) (fun _ => undef) 17 [16, 15] [.agg #[.int .i64 n1, .int .i64 n2], .agg #[.int .i64 n3, .int .i64 n4]] [] w = f32.b n1 n2 n3 n4 k w := by kernel_rfl
theorem f32.okc {k : Value → World → Prop} : okC Try.prog none .none f32.body (retQ Try.prog [.tmp 4] k) :=
  Eq.mpr (by kernel_rfl : okC Try.prog none .none f32.body (retQ Try.prog [.tmp 4] k) = (True)) (trivial)
theorem f32.call {n1 : Int} {n2 : Int} {n3 : Int} {n4 : Int} {k : Value → World → Prop} {w : World} (h : f32.b n1 n2 n3 n4 k w) : CALL Try.prog 32 #[.agg #[.int .i64 n1, .int .i64 n2], .agg #[.int .i64 n3, .int .i64 n4]] k w :=
  calls_of_pc Try.mixed Try.func32 (by kernel_rfl : Try.f32.body = some f32.body) (Try.call32 _ _) (by kernel_rfl : #[.agg #[.int .i64 n1, .int .i64 n2], .agg #[.int .i64 n3, .int .i64 n4]] ++ Array.replicate (Try.f32.ntmps - (#[.agg #[.int .i64 n1, .int .i64 n2], .agg #[.int .i64 n3, .int .i64 n4]] : Array Value).size) undef = (FR (fun _ => undef) 17 [16, 15] [.agg #[.int .i64 n1, .int .i64 n2], .agg #[.int .i64 n3, .int .i64 n4]]).toArray) (by kernel_rfl : Try.f32.results.toList = [.tmp 4]) f32.okc ((f32.den n1 n2 n3 n4 k w).symm ▸ h)

/-! (*rollcall/timer.Table[int]).Stop -/
noncomputable def f23.body : Code := (Try.f23.body).getD .skip
def f23.Q1 (k : Value → World → Prop) : Exit → Act → World → Prop := (retQ Try.prog [.tmp 4] k)
def f23.J1 (p16 : Option Addr) (n17 : Int) (k : Value → World → Prop) (w : World) : Prop :=
  NN p16 (fun a18 => LD Value.map (Addr.add a18 1) (fun m19 w => MD m19 (.int .i64) (.int .i64 n17) (fun w => k (.bool true) w) w) w)
def f23.J1p (k : Value → World → Prop) : Act → World → Prop := PJ 45 [44, 43] fun us ds w => un us fun v us => asP v fun p16 => un us fun v us => asI .i64 v fun n17 => nl us (dn ds (f23.J1 p16 n17 k w))
theorem f23.J1_den (D : Nat → Value) (p16 : Option Addr) (n17 : Int) (k : Value → World → Prop) (w : World) : pc Try.prog none .none (codeAt f23.body [1, 1, 1, 1]) (f23.Q1 k) D 45 [44, 43] [.pointer p16, .int .i64 n17] [] w = f23.J1 p16 n17 k w := by kernel_rfl
theorem f23.J1_okc {k : Value → World → Prop} : okC Try.prog none .none (codeAt f23.body [1, 1, 1, 1]) (f23.Q1 k) :=
  Eq.mpr (by kernel_rfl : okC Try.prog none .none (codeAt f23.body [1, 1, 1, 1]) (f23.Q1 k) = (True)) (trivial)
theorem f23.J1_ok {k : Value → World → Prop} : OKJ Try.prog none (f23.J1p k) (codeAt f23.body [1, 1, 1, 1]) (f23.Q1 k) := by
  intro a w h
  obtain ⟨D, us, ds, rfl, h0⟩ := PJ_out h
  obtain ⟨v, us, rfl, h1⟩ := un_out h0
  obtain ⟨p16, rfl, h2⟩ := asP_out h1
  obtain ⟨v, us, rfl, h3⟩ := un_out h2
  obtain ⟨n17, rfl, h4⟩ := asI_out h3
  obtain ⟨rfl, h5⟩ := nl_out h4
  obtain ⟨rfl, h6⟩ := dn_out h5
  rw [← f23.J1_den D p16 n17 k w] at h6
  exact pc_wp Try.mixed f23.J1_okc h6
def f23.b (p1 : Option Addr) (n2 : Int) (k : Value → World → Prop) (w : World) : Prop :=
  CALL Try.prog 24 #[.pointer p1, .int .i64 n2] (fun v3 w => ∃ n4 : Int, ∃ b5 : Bool, v3 = .tuple #[.int .i64 n4, .bool b5] ∧ brK (!b5) (k (.bool false) w) (NN p1 (fun a6 => LD slv (Addr.add a6 0) (fun l7 w => CALL Try.prog 31 #[slv l7, .agg #[.int .i64 n2, .int .i64 n4], .func (.func 32) #[] #[]] (fun v8 w => ∃ n9 : Int, ∃ b10 : Bool, v8 = .tuple #[.int .i64 n9, .bool b10] ∧ brK b10 (NN p1 (fun a11 => LD slv (Addr.add a11 0) (fun l12 w => CALL Try.prog 34 #[slv l12, .int .i64 n9, .int .i64 (IntKind.wrap .i64 (n9 + 1))] (fun v13 w => ∃ l14 : Sl, v13 = slv l14 ∧ NN p1 (fun a15 => ST (Addr.add (Addr.add a15 0) 0) (slv l14) (fun w => f23.J1 p1 n2 k w) w)) w) w)) (f23.J1 p1 n2 k w)) w) w))) w
theorem f23.den (p1 : Option Addr) (n2 : Int) (k : Value → World → Prop) (w : World) : pc Try.prog none (.seq none .none (.seq none .none (.seq none .none (.seq (some (f23.J1p k)) .none .none)))) f23.body (retQ Try.prog [.tmp 4] k) (fun _ => undef) 45 [44, 43] [.pointer p1, .int .i64 n2] [] w = f23.b p1 n2 k w := by kernel_rfl
theorem f23.okc {k : Value → World → Prop} : okC Try.prog none (.seq none .none (.seq none .none (.seq none .none (.seq (some (f23.J1p k)) .none .none)))) f23.body (retQ Try.prog [.tmp 4] k) :=
  Eq.mpr (by kernel_rfl : okC Try.prog none (.seq none .none (.seq none .none (.seq none .none (.seq (some (f23.J1p k)) .none .none)))) f23.body (retQ Try.prog [.tmp 4] k) = (((True) ∧ (((True) ∧ (((True) ∧ (((True) ∧ OKJ Try.prog none (f23.J1p k) (codeAt f23.body [1, 1, 1, 1]) (f23.Q1 k)))))))))) (⟨trivial, ⟨trivial, ⟨trivial, ⟨trivial, f23.J1_ok⟩⟩⟩⟩)
theorem f23.call {p1 : Option Addr} {n2 : Int} {k : Value → World → Prop} {w : World} (h : f23.b p1 n2 k w) : CALL Try.prog 23 #[.pointer p1, .int .i64 n2] k w :=
  calls_of_pc Try.mixed Try.func23 (by kernel_rfl : Try.f23.body = some f23.body) (Try.call23 _ _) (by kernel_rfl : #[.pointer p1, .int .i64 n2] ++ Array.replicate (Try.f23.ntmps - (#[.pointer p1, .int .i64 n2] : Array Value).size) undef = (FR (fun _ => undef) 45 [44, 43] [.pointer p1, .int .i64 n2]).toArray) (by kernel_rfl : Try.f23.results.toList = [.tmp 4]) f23.okc ((f23.den p1 n2 k w).symm ▸ h)

/-! cmp.Or[int] -/
noncomputable def f40.body : Code := (Try.f40.body).getD .skip
def f40.J1 (n8 : Int) (k : Value → World → Prop) (w : World) : Prop :=
  k (.int .i64 n8) w
def f40.J1p (k : Value → World → Prop) : Act → World → Prop := PJ 18 [14] fun us ds w => un us fun v us => asI .i64 v fun n8 => nl us (dn ds (f40.J1 n8 k w))
def f40.Q1 (k : Value → World → Prop) : Exit → Act → World → Prop := (Exit.inBlock 0 (Exit.then (f40.J1p k) (retQ Try.prog [.tmp 2] k)))
def f40.L2k (Kn1 : Int → Sl → Int → Int → World → Prop) : Act → World → Prop := PJ 18 [14, 11, 10, 9] fun us ds w => un us fun v us => asI .i64 v fun n2 => un us fun v us => asS v fun l3 => un us fun v us => asI .i64 v fun n4 => un us fun v us => asI .i64 v fun n5 => nl us (dn ds (Kn1 n2 l3 n4 n5 w))
def f40.Q2 (k : Value → World → Prop) : Exit → Act → World → Prop := (retQ Try.prog [.tmp 2] k)
def f40.L2 (n2 : Int) (l3 : Sl) (n4 : Int) (n5 : Int) (Kn1 : Int → Sl → Int → Int → World → Prop) (k : Value → World → Prop) (w : World) : Prop :=
  brK (decide (n5 < n4)) (IX l3 n5 1 (fun a6 => LD (Value.int .i64) a6 (fun n7 w => brK (n7 != n2) (k (.int .i64 n7) w) (Kn1 n2 l3 n4 (IntKind.wrap .i64 (n5 + 1)) w)) w)) (f40.J1 n2 k w)
def f40.L2lp (n2 : Int) (l3 : Sl) (n4 : Int) (n5 : Int) (k : Value → World → Prop) (w : World) : Prop := ∀ D : Nat → Value, (Code.loop (codeAt f40.body [1, 1, 0, 1, 0, 0])).wpIn (Wd none) 0 Try.prog (f40.Q1 k) (fr D 18 [14, 11, 10, 9] [.int .i64 n2, slv l3, .int .i64 n4, .int .i64 n5] []) w
def f40.L2p (k : Value → World → Prop) : Act → World → Prop := PJ 18 [14, 11, 10, 9] fun us ds w => un us fun v us => asI .i64 v fun n2 => un us fun v us => asS v fun l3 => un us fun v us => asI .i64 v fun n4 => un us fun v us => asI .i64 v fun n5 => nl us (dn ds (f40.L2lp n2 l3 n4 n5 k w))
def f40.L2K (n2 : Int) (l3 : Sl) (n4 : Int) (I : Int → World → Prop) (μ : Int → World → Nat) (m : Nat) (n2' : Int) (l3' : Sl) (n4' : Int) (n5' : Int) (w : World) : Prop := (n2' = n2 ∧ l3' = l3 ∧ n4' = n4) ∧ I n5' w ∧ μ n5' w < m
theorem f40.J1_den (D : Nat → Value) (n8 : Int) (k : Value → World → Prop) (w : World) : pc Try.prog none .none (codeAt f40.body [1, 1, 1]) (f40.Q2 k) D 18 [14] [.int .i64 n8] [] w = f40.J1 n8 k w := by kernel_rfl
theorem f40.J1_okc {k : Value → World → Prop} : okC Try.prog none .none (codeAt f40.body [1, 1, 1]) (f40.Q2 k) :=
  Eq.mpr (by kernel_rfl : okC Try.prog none .none (codeAt f40.body [1, 1, 1]) (f40.Q2 k) = (True)) (trivial)
theorem f40.J1_ok {k : Value → World → Prop} : OKJ Try.prog none (f40.J1p k) (codeAt f40.body [1, 1, 1]) (f40.Q2 k) := by
  intro a w h
  obtain ⟨D, us, ds, rfl, h0⟩ := PJ_out h
  obtain ⟨v, us, rfl, h1⟩ := un_out h0
  obtain ⟨n8, rfl, h2⟩ := asI_out h1
  obtain ⟨rfl, h3⟩ := nl_out h2
  obtain ⟨rfl, h4⟩ := dn_out h3
  rw [← f40.J1_den D n8 k w] at h4
  exact pc_wp Try.mixed f40.J1_okc h4
theorem f40.L2_next {n2 : Int} {l3 : Sl} {n4 : Int} {I : Int → World → Prop} {μ : Int → World → Nat} {m : Nat} {n5 : Int} {w : World} (hI : I n5 w) (hlt : μ n5 w < m) : f40.L2K n2 l3 n4 I μ m n2 l3 n4 n5 w := ⟨⟨rfl, rfl, rfl⟩, hI, hlt⟩
theorem f40.L2_den (D : Nat → Value) (n2 : Int) (l3 : Sl) (n4 : Int) (n5 : Int) (Kn1 : Int → Sl → Int → Int → World → Prop) (k : Value → World → Prop) (w : World) : pc Try.prog none .none (codeAt f40.body [1, 1, 0, 1, 0, 0]) (Exit.then (f40.L2k Kn1) (f40.Q1 k)) D 18 [14, 11, 10, 9] [.int .i64 n2, slv l3, .int .i64 n4, .int .i64 n5] [] w = f40.L2 n2 l3 n4 n5 Kn1 k w := by kernel_rfl
theorem f40.L2_okc {Kn1 : Int → Sl → Int → Int → World → Prop} {k : Value → World → Prop} : okC Try.prog none .none (codeAt f40.body [1, 1, 0, 1, 0, 0]) (Exit.then (f40.L2k Kn1) (f40.Q1 k)) :=
  Eq.mpr (by kernel_rfl : okC Try.prog none .none (codeAt f40.body [1, 1, 0, 1, 0, 0]) (Exit.then (f40.L2k Kn1) (f40.Q1 k)) = (True)) (trivial)
theorem f40.L2_ok {k : Value → World → Prop} : OKJ Try.prog none (f40.L2p k) (codeAt f40.body [1, 1, 0, 1, 0]) (f40.Q1 k) := by
  intro a w h
  obtain ⟨D, us, ds, rfl, h0⟩ := PJ_out h
  obtain ⟨v, us, rfl, h1⟩ := un_out h0
  obtain ⟨n2, rfl, h2⟩ := asI_out h1
  obtain ⟨v, us, rfl, h3⟩ := un_out h2
  obtain ⟨l3, rfl, h4⟩ := asS_out h3
  obtain ⟨v, us, rfl, h5⟩ := un_out h4
  obtain ⟨n4, rfl, h6⟩ := asI_out h5
  obtain ⟨v, us, rfl, h7⟩ := un_out h6
  obtain ⟨n5, rfl, h8⟩ := asI_out h7
  obtain ⟨rfl, h9⟩ := nl_out h8
  obtain ⟨rfl, h10⟩ := dn_out h9
  rw [show (codeAt f40.body [1, 1, 0, 1, 0]) = Code.loop (codeAt f40.body [1, 1, 0, 1, 0, 0]) by kernel_rfl]
  exact h10 D
theorem f40.L2_rule {n2 : Int} {l3 : Sl} {n4 : Int} {k : Value → World → Prop} (I : Int → World → Prop) (μ : Int → World → Nat) {n5 : Int} {w : World} (h0 : I n5 w)
    (hr : ∀ (n5 : Int) (w : World), I n5 w → f40.L2 n2 l3 n4 n5 (f40.L2K n2 l3 n4 I μ (μ n5 w)) k w) : f40.L2lp n2 l3 n4 n5 k w := by
  intro D0
  refine loop_ind (P := Try.prog) (fun m a w => ∃ n5 : Int, ∃ D : Nat → Value, a = fr D 18 [14, 11, 10, 9] [.int .i64 n2, slv l3, .int .i64 n4, .int .i64 n5] [] ∧ I n5 w ∧ μ n5 w = m) ?_ (μ n5 w) ⟨_, D0, rfl, h0, rfl⟩
  rintro m a w ⟨n5, D, rfl, hI, rfl⟩
  have h := hr n5 w hI
  rw [← f40.L2_den D n2 l3 n4 n5 (f40.L2K n2 l3 n4 I μ (μ n5 w)) k w] at h
  refine then_mono (pc_wp Try.mixed f40.L2_okc h) ?_
  clear h
  intro a w h
  obtain ⟨D, us, ds, rfl, h0⟩ := PJ_out h
  obtain ⟨v, us, rfl, h1⟩ := un_out h0
  obtain ⟨n2', rfl, h2⟩ := asI_out h1
  obtain ⟨v, us, rfl, h3⟩ := un_out h2
  obtain ⟨l3', rfl, h4⟩ := asS_out h3
  obtain ⟨v, us, rfl, h5⟩ := un_out h4
  obtain ⟨n4', rfl, h6⟩ := asI_out h5
  obtain ⟨v, us, rfl, h7⟩ := un_out h6
  obtain ⟨n5', rfl, h8⟩ := asI_out h7
  obtain ⟨rfl, h9⟩ := nl_out h8
  obtain ⟨rfl, h10⟩ := dn_out h9
  obtain ⟨⟨rfl, rfl, rfl⟩, hI, hlt⟩ := h10
  exact ⟨_, hlt, _, D, rfl, hI, rfl⟩
def f40.b (l1 : Sl) (k : Value → World → Prop) (w : World) : Prop :=
  f40.L2lp 0 l1 ((l1.2.1 : Nat) : Int) 0 k w
theorem f40.den (l1 : Sl) (k : Value → World → Prop) (w : World) : pc Try.prog none (.seq none .none (.seq none .none (.seq (some (f40.J1p k)) (.seq none .none (.block (.at (f40.L2p k)))) .none))) f40.body (retQ Try.prog [.tmp 2] k) (fun _ => undef) 18 [17] [slv l1] [] w = f40.b l1 k w := by kernel_rfl
theorem f40.okc {k : Value → World → Prop} : okC Try.prog none (.seq none .none (.seq none .none (.seq (some (f40.J1p k)) (.seq none .none (.block (.at (f40.L2p k)))) .none))) f40.body (retQ Try.prog [.tmp 2] k) :=
  Eq.mpr (by kernel_rfl : okC Try.prog none (.seq none .none (.seq none .none (.seq (some (f40.J1p k)) (.seq none .none (.block (.at (f40.L2p k)))) .none))) f40.body (retQ Try.prog [.tmp 2] k) = (((True) ∧ (((True) ∧ (((((True) ∧ (OKJ Try.prog none (f40.L2p k) (codeAt f40.body [1, 1, 0, 1, 0]) (f40.Q1 k)))) ∧ OKJ Try.prog none (f40.J1p k) (codeAt f40.body [1, 1, 1]) (f40.Q2 k)))))))) (⟨trivial, ⟨trivial, ⟨⟨trivial, f40.L2_ok⟩, f40.J1_ok⟩⟩⟩)
theorem f40.call {l1 : Sl} {k : Value → World → Prop} {w : World} (h : f40.b l1 k w) : CALL Try.prog 40 #[slv l1] k w :=
  calls_of_pc Try.mixed Try.func40 (by kernel_rfl : Try.f40.body = some f40.body) (Try.call40 _ _) (by kernel_rfl : #[slv l1] ++ Array.replicate (Try.f40.ntmps - (#[slv l1] : Array Value).size) undef = (FR (fun _ => undef) 18 [17] [slv l1]).toArray) (by kernel_rfl : Try.f40.results.toList = [.tmp 2]) f40.okc ((f40.den l1 k w).symm ▸ h)

/-! cmp.Compare[int] -/
noncomputable def f41.body : Code := (Try.f41.body).getD .skip
def f41.b (n1 : Int) (n2 : Int) (k : Value → World → Prop) (w : World) : Prop :=
  CALL Try.prog 47 #[.int .i64 n1] (fun v3 w => ∃ b4 : Bool, v3 = .bool b4 ∧ CALL Try.prog 47 #[.int .i64 n2] (fun v5 w => ∃ b6 : Bool, v5 = .bool b6 ∧ brK b4 (brK b6 (k (.int .i64 0) w) (k (.int .i64 (-1)) w)) (brK b6 (k (.int .i64 1) w) (brK (decide (n1 < n2)) (k (.int .i64 (-1)) w) (brK (decide (n2 < n1)) (k (.int .i64 1) w) (k (.int .i64 0) w))))) w) w
theorem f41.den (n1 : Int) (n2 : Int) (k : Value → World → Prop) (w : World) : pc Try.prog none .none f41.body (retQ Try.prog [.tmp 4] k) (fun _ => undef) 20 [19, 18] [.int .i64 n1, .int .i64 n2] [] w = f41.b n1 n2 k w := by kernel_rfl
theorem f41.okc {k : Value → World → Prop} : okC Try.prog none .none f41.body (retQ Try.prog [.tmp 4] k) :=
  Eq.mpr (by kernel_rfl : okC Try.prog none .none f41.body (retQ Try.prog [.tmp 4] k) = (True)) (trivial)
theorem f41.call {n1 : Int} {n2 : Int} {k : Value → World → Prop} {w : World} (h : f41.b n1 n2 k w) : CALL Try.prog 41 #[.int .i64 n1, .int .i64 n2] k w :=
  calls_of_pc Try.mixed Try.func41 (by kernel_rfl : Try.f41.body = some f41.body) (Try.call41 _ _) (by kernel_rfl : #[.int .i64 n1, .int .i64 n2] ++ Array.replicate (Try.f41.ntmps - (#[.int .i64 n1, .int .i64 n2] : Array Value).size) undef = (FR (fun _ => undef) 20 [19, 18] [.int .i64 n1, .int .i64 n2]).toArray) (by kernel_rfl : Try.f41.results.toList = [.tmp 4]) f41.okc ((f41.den n1 n2 k w).symm ▸ h)

/-! cmp.isNaN[int] -/
noncomputable def f47.body : Code := (Try.f47.body).getD .skip
def f47.b (n1 : Int) (k : Value → World → Prop) (w : World) : Prop :=
  k (.bool (n1 != n1)) w
theorem f47.den (n1 : Int) (k : Value → World → Prop) (w : World) : pc Try.prog none .none f47.body (retQ Try.prog [.tmp 2] k) (fun _ => undef) 6 [5] [.int .i64 n1] [] w = f47.b n1 k w := by kernel_rfl
theorem f47.okc {k : Value → World → Prop} : okC Try.prog none .none f47.body (retQ Try.prog [.tmp 2] k) :=
  Eq.mpr (by kernel_rfl : okC Try.prog none .none f47.body (retQ Try.prog [.tmp 2] k) = (True)) (trivial)
theorem f47.call {n1 : Int} {k : Value → World → Prop} {w : World} (h : f47.b n1 k w) : CALL Try.prog 47 #[.int .i64 n1] k w :=
  calls_of_pc Try.mixed Try.func47 (by kernel_rfl : Try.f47.body = some f47.body) (Try.call47 _ _) (by kernel_rfl : #[.int .i64 n1] ++ Array.replicate (Try.f47.ntmps - (#[.int .i64 n1] : Array Value).size) undef = (FR (fun _ => undef) 6 [5] [.int .i64 n1]).toArray) (by kernel_rfl : Try.f47.results.toList = [.tmp 2]) f47.okc ((f47.den n1 k w).symm ▸ h)

/-! (*rollcall/timer.Table[int]).Set -/
noncomputable def f22.body : Code := (Try.f22.body).getD .skip
def f22.b (p1 : Option Addr) (n2 : Int) (n3 : Int) (k : Value → World → Prop) (w : World) : Prop :=
  brK p1.isNone (k (.tuple #[]) w) (CALL Try.prog 23 #[.pointer p1, .int .i64 n2] (fun v4 w => ∃ b5 : Bool, v4 = .bool b5 ∧ NN p1 (fun a6 => LD slv (Addr.add a6 0) (fun l7 w => CALL Try.prog 31 #[slv l7, .agg #[.int .i64 n2, .int .i64 n3], .func (.func 32) #[] #[]] (fun v8 w => ∃ n9 : Int, ∃ b10 : Bool, v8 = .tuple #[.int .i64 n9, .bool b10] ∧ NN p1 (fun a11 => LD slv (Addr.add a11 0) (fun l12 w => AL (.cells #[.int .i64 n2, .int .i64 n3] 72) (fun q13 w => CALL Try.prog 33 #[slv l12, .int .i64 n9, slv ((some ⟨q13, 0, none⟩), 1, 1)] (fun v14 w => ∃ l15 : Sl, v14 = slv l15 ∧ NN p1 (fun a16 => ST (Addr.add (Addr.add a16 0) 0) (slv l15) (fun w => NN p1 (fun a17 => LD Value.map (Addr.add a17 1) (fun m18 w => MU m18 (.int .i64) (.int .i64 n2) (.int .i64 n3) (fun w => k (.tuple #[]) w) w) w)) w)) w) w) w)) w) w)) w)
theorem f22.den (p1 : Option Addr) (n2 : Int) (n3 : Int) (k : Value → World → Prop) (w : World) : pc Try.prog none .none f22.body (retQ Try.prog [] k) (fun _ => undef) 43 [42, 41, 40] [.pointer p1, .int .i64 n2, .int .i64 n3] [] w = f22.b p1 n2 n3 k w := by kernel_rfl
theorem f22.okc {k : Value → World → Prop} : okC Try.prog none .none f22.body (retQ Try.prog [] k) :=
  Eq.mpr (by kernel_rfl : okC Try.prog none .none f22.body (retQ Try.prog [] k) = (True)) (trivial)
theorem f22.call {p1 : Option Addr} {n2 : Int} {n3 : Int} {k : Value → World → Prop} {w : World} (h : f22.b p1 n2 n3 k w) : CALL Try.prog 22 #[.pointer p1, .int .i64 n2, .int .i64 n3] k w :=
  calls_of_pc Try.mixed Try.func22 (by kernel_rfl : Try.f22.body = some f22.body) (Try.call22 _ _) (by kernel_rfl : #[.pointer p1, .int .i64 n2, .int .i64 n3] ++ Array.replicate (Try.f22.ntmps - (#[.pointer p1, .int .i64 n2, .int .i64 n3] : Array Value).size) undef = (FR (fun _ => undef) 43 [42, 41, 40] [.pointer p1, .int .i64 n2, .int .i64 n3]).toArray) (by kernel_rfl : Try.f22.results.toList = []) f22.okc ((f22.den p1 n2 n3 k w).symm ▸ h)
end Go.Proofs.Ytnaeabcaennbjaa
