/- Printed by gen2.py: the functions' bodies over the primitives of Den, in pieces. -/
import Derived.Test.YtlefdgplobifiaaGreatDoorCut
import Derived.Test.YtlefdgplobifiaaGreatDoorKit
namespace Go.Proofs.YtlefdgplobifiaaGreatDoor
open Go
set_option maxRecDepth 100000
set_option linter.unusedVariables false
/-! rollcall/rollcallref10.Remove -/
noncomputable def f61.body : Code := (Tryz.f61.body).getD .skip
def f61.J1 (l17 : Sl) (k : Value → World → Prop) (w : World) : Prop :=
  k (slv l17) w
def f61.J1p (k : Value → World → Prop) : Act → World → Prop := PJ 27 [21] fun us ds w => un us fun v us => asS v fun l17 => nl us (dn ds (f61.J1 l17 k w))
def f61.Q1 (k : Value → World → Prop) : Exit → Act → World → Prop := (Exit.inBlock 0 (Exit.then (f61.J1p k) (retQ Tryz.prog [.tmp 4] k)))
def f61.L2k (Kn1 : Sl → Int → Sl → Int → World → Prop) : Act → World → Prop := PJ 27 [26, 25, 21, 20] fun us ds w => un us fun v us => asS v fun l3 => un us fun v us => asI .i64 v fun n4 => un us fun v us => asS v fun l5 => un us fun v us => asI .i64 v fun n6 => nl us (dn ds (Kn1 l3 n4 l5 n6 w))
def f61.Q2 (Kn1 : Sl → Int → Sl → Int → World → Prop) (k : Value → World → Prop) : Exit → Act → World → Prop := (Exit.then (f61.L2k Kn1) (f61.Q1 k))
def f61.J3 (l13 : Sl) (n14 : Int) (l15 : Sl) (n16 : Int) (Kn1 : Sl → Int → Sl → Int → World → Prop) (k : Value → World → Prop) (w : World) : Prop :=
  Kn1 l13 n14 l15 (IntKind.wrap .i64 (n16 + 1)) w
def f61.J3p (Kn1 : Sl → Int → Sl → Int → World → Prop) (k : Value → World → Prop) : Act → World → Prop := PJ 27 [26, 25, 21, 20] fun us ds w => un us fun v us => asS v fun l13 => un us fun v us => asI .i64 v fun n14 => un us fun v us => asS v fun l15 => un us fun v us => asI .i64 v fun n16 => nl us (dn ds (f61.J3 l13 n14 l15 n16 Kn1 k w))
def f61.Q3 (k : Value → World → Prop) : Exit → Act → World → Prop := (retQ Tryz.prog [.tmp 4] k)
def f61.L2 (l3 : Sl) (n4 : Int) (l5 : Sl) (n6 : Int) (Kn1 : Sl → Int → Sl → Int → World → Prop) (k : Value → World → Prop) (w : World) : Prop :=
  brK (decide (n6 < ((l3.2.1 : Nat) : Int))) (IX l3 n6 1 (fun a7 => LD (Value.int .i64) a7 (fun n8 w => brK (n8 != n4) (IX l3 n6 1 (fun a9 => LD (Value.int .i64) a9 (fun n10 w => AL (.cells #[.int .i64 n10] 3) (fun q11 w => APP 3 1 8 #[.int .i64 0] l5 1 (fun w => cellsOfS w ((some ⟨q11, 0, none⟩), 1, 1) (1 * 1)) (fun l12 w => f61.J3 l3 n4 l12 n6 Kn1 k w) w) w) w)) (f61.J3 l3 n4 l5 n6 Kn1 k w)) w)) (f61.J1 l5 k w)
def f61.L2lp (l3 : Sl) (n4 : Int) (l5 : Sl) (n6 : Int) (k : Value → World → Prop) (w : World) : Prop := ∀ D : Nat → Value, (Code.loop (codeAt f61.body [1, 1, 0, 1, 0, 0])).wpIn (Wd none) 0 Tryz.prog (f61.Q1 k) (fr D 27 [26, 25, 21, 20] [slv l3, .int .i64 n4, slv l5, .int .i64 n6] []) w
def f61.L2p (k : Value → World → Prop) : Act → World → Prop := PJ 27 [26, 25, 21, 20] fun us ds w => un us fun v us => asS v fun l3 => un us fun v us => asI .i64 v fun n4 => un us fun v us => asS v fun l5 => un us fun v us => asI .i64 v fun n6 => nl us (dn ds (f61.L2lp l3 n4 l5 n6 k w))
def f61.L2K (l3 : Sl) (n4 : Int) (I : Sl → Int → World → Prop) (μ : Sl → Int → World → Nat) (m : Nat) (l3' : Sl) (n4' : Int) (l5' : Sl) (n6' : Int) (w : World) : Prop := (l3' = l3 ∧ n4' = n4) ∧ I l5' n6' w ∧ μ l5' n6' w < m
theorem f61.J3_den (D : Nat → Value) (l13 : Sl) (n14 : Int) (l15 : Sl) (n16 : Int) (Kn1 : Sl → Int → Sl → Int → World → Prop) (k : Value → World → Prop) (w : World) : pc Tryz.prog none .none (codeAt f61.body [1, 1, 0, 1, 0, 0, 1, 1]) (f61.Q2 Kn1 k) D 27 [26, 25, 21, 20] [slv l13, .int .i64 n14, slv l15, .int .i64 n16] [] w = f61.J3 l13 n14 l15 n16 Kn1 k w := by kernel_rfl
theorem f61.J3_okc {Kn1 : Sl → Int → Sl → Int → World → Prop} {k : Value → World → Prop} : okC Tryz.prog none .none (codeAt f61.body [1, 1, 0, 1, 0, 0, 1, 1]) (f61.Q2 Kn1 k) :=
  Eq.mpr (by kernel_rfl : okC Tryz.prog none .none (codeAt f61.body [1, 1, 0, 1, 0, 0, 1, 1]) (f61.Q2 Kn1 k) = (True)) (trivial)
theorem f61.J3_ok {Kn1 : Sl → Int → Sl → Int → World → Prop} {k : Value → World → Prop} : OKJ Tryz.prog none (f61.J3p Kn1 k) (codeAt f61.body [1, 1, 0, 1, 0, 0, 1, 1]) (f61.Q2 Kn1 k) := by
  intro a w h
  obtain ⟨D, us, ds, rfl, h0⟩ := PJ_out h
  obtain ⟨v, us, rfl, h1⟩ := un_out h0
  obtain ⟨l13, rfl, h2⟩ := asS_out h1
  obtain ⟨v, us, rfl, h3⟩ := un_out h2
  obtain ⟨n14, rfl, h4⟩ := asI_out h3
  obtain ⟨v, us, rfl, h5⟩ := un_out h4
  obtain ⟨l15, rfl, h6⟩ := asS_out h5
  obtain ⟨v, us, rfl, h7⟩ := un_out h6
  obtain ⟨n16, rfl, h8⟩ := asI_out h7
  obtain ⟨rfl, h9⟩ := nl_out h8
  obtain ⟨rfl, h10⟩ := dn_out h9
  rw [← f61.J3_den D l13 n14 l15 n16 Kn1 k w] at h10
  exact pc_wp Tryz.mixed f61.J3_okc h10
theorem f61.J1_den (D : Nat → Value) (l17 : Sl) (k : Value → World → Prop) (w : World) : pc Tryz.prog none .none (codeAt f61.body [1, 1, 1]) (f61.Q3 k) D 27 [21] [slv l17] [] w = f61.J1 l17 k w := by kernel_rfl
theorem f61.J1_okc {k : Value → World → Prop} : okC Tryz.prog none .none (codeAt f61.body [1, 1, 1]) (f61.Q3 k) :=
  Eq.mpr (by kernel_rfl : okC Tryz.prog none .none (codeAt f61.body [1, 1, 1]) (f61.Q3 k) = (True)) (trivial)
theorem f61.J1_ok {k : Value → World → Prop} : OKJ Tryz.prog none (f61.J1p k) (codeAt f61.body [1, 1, 1]) (f61.Q3 k) := by
  intro a w h
  obtain ⟨D, us, ds, rfl, h0⟩ := PJ_out h
  obtain ⟨v, us, rfl, h1⟩ := un_out h0
  obtain ⟨l17, rfl, h2⟩ := asS_out h1
  obtain ⟨rfl, h3⟩ := nl_out h2
  obtain ⟨rfl, h4⟩ := dn_out h3
  rw [← f61.J1_den D l17 k w] at h4
  exact pc_wp Tryz.mixed f61.J1_okc h4
theorem f61.L2_next {l3 : Sl} {n4 : Int} {I : Sl → Int → World → Prop} {μ : Sl → Int → World → Nat} {m : Nat} {l5 : Sl} {n6 : Int} {w : World} (hI : I l5 n6 w) (hlt : μ l5 n6 w < m) : f61.L2K l3 n4 I μ m l3 n4 l5 n6 w := ⟨⟨rfl, rfl⟩, hI, hlt⟩
theorem f61.L2_den (D : Nat → Value) (l3 : Sl) (n4 : Int) (l5 : Sl) (n6 : Int) (Kn1 : Sl → Int → Sl → Int → World → Prop) (k : Value → World → Prop) (w : World) : pc Tryz.prog none (.seq none .none (.seq (some (f61.J3p Kn1 k)) .none .none)) (codeAt f61.body [1, 1, 0, 1, 0, 0]) (Exit.then (f61.L2k Kn1) (f61.Q1 k)) D 27 [26, 25, 21, 20] [slv l3, .int .i64 n4, slv l5, .int .i64 n6] [] w = f61.L2 l3 n4 l5 n6 Kn1 k w := by kernel_rfl
theorem f61.L2_okc {Kn1 : Sl → Int → Sl → Int → World → Prop} {k : Value → World → Prop} : okC Tryz.prog none (.seq none .none (.seq (some (f61.J3p Kn1 k)) .none .none)) (codeAt f61.body [1, 1, 0, 1, 0, 0]) (Exit.then (f61.L2k Kn1) (f61.Q1 k)) :=
  Eq.mpr (by kernel_rfl : okC Tryz.prog none (.seq none .none (.seq (some (f61.J3p Kn1 k)) .none .none)) (codeAt f61.body [1, 1, 0, 1, 0, 0]) (Exit.then (f61.L2k Kn1) (f61.Q1 k)) = (((True) ∧ (((True) ∧ OKJ Tryz.prog none (f61.J3p Kn1 k) (codeAt f61.body [1, 1, 0, 1, 0, 0, 1, 1]) (f61.Q2 Kn1 k)))))) (⟨trivial, ⟨trivial, f61.J3_ok⟩⟩)
theorem f61.L2_ok {k : Value → World → Prop} : OKJ Tryz.prog none (f61.L2p k) (codeAt f61.body [1, 1, 0, 1, 0]) (f61.Q1 k) := by
  intro a w h
  obtain ⟨D, us, ds, rfl, h0⟩ := PJ_out h
  obtain ⟨v, us, rfl, h1⟩ := un_out h0
  obtain ⟨l3, rfl, h2⟩ := asS_out h1
  obtain ⟨v, us, rfl, h3⟩ := un_out h2
  obtain ⟨n4, rfl, h4⟩ := asI_out h3
  obtain ⟨v, us, rfl, h5⟩ := un_out h4
  obtain ⟨l5, rfl, h6⟩ := asS_out h5
  obtain ⟨v, us, rfl, h7⟩ := un_out h6
  obtain ⟨n6, rfl, h8⟩ := asI_out h7
  obtain ⟨rfl, h9⟩ := nl_out h8
  obtain ⟨rfl, h10⟩ := dn_out h9
  rw [show (codeAt f61.body [1, 1, 0, 1, 0]) = Code.loop (codeAt f61.body [1, 1, 0, 1, 0, 0]) by kernel_rfl]
  exact h10 D
theorem f61.L2_rule {l3 : Sl} {n4 : Int} {k : Value → World → Prop} (I : Sl → Int → World → Prop) (μ : Sl → Int → World → Nat) {l5 : Sl} {n6 : Int} {w : World} (h0 : I l5 n6 w)
    (hr : ∀ (l5 : Sl) (n6 : Int) (w : World), I l5 n6 w → f61.L2 l3 n4 l5 n6 (f61.L2K l3 n4 I μ (μ l5 n6 w)) k w) : f61.L2lp l3 n4 l5 n6 k w := by
  intro D0
  refine loop_ind (P := Tryz.prog) (fun m a w => ∃ l5 : Sl, ∃ n6 : Int, ∃ D : Nat → Value, a = fr D 27 [26, 25, 21, 20] [slv l3, .int .i64 n4, slv l5, .int .i64 n6] [] ∧ I l5 n6 w ∧ μ l5 n6 w = m) ?_ (μ l5 n6 w) ⟨_, _, D0, rfl, h0, rfl⟩
  rintro m a w ⟨l5, n6, D, rfl, hI, rfl⟩
  have h := hr l5 n6 w hI
  rw [← f61.L2_den D l3 n4 l5 n6 (f61.L2K l3 n4 I μ (μ l5 n6 w)) k w] at h
  refine then_mono (pc_wp Tryz.mixed f61.L2_okc h) ?_
  clear h
  intro a w h
  obtain ⟨D, us, ds, rfl, h0⟩ := PJ_out h
  obtain ⟨v, us, rfl, h1⟩ := un_out h0
  obtain ⟨l3', rfl, h2⟩ := asS_out h1
  obtain ⟨v, us, rfl, h3⟩ := un_out h2
  obtain ⟨n4', rfl, h4⟩ := asI_out h3
  obtain ⟨v, us, rfl, h5⟩ := un_out h4
  obtain ⟨l5', rfl, h6⟩ := asS_out h5
  obtain ⟨v, us, rfl, h7⟩ := un_out h6
  obtain ⟨n6', rfl, h8⟩ := asI_out h7
  obtain ⟨rfl, h9⟩ := nl_out h8
  obtain ⟨rfl, h10⟩ := dn_out h9
  obtain ⟨⟨rfl, rfl⟩, hI, hlt⟩ := h10
  exact ⟨_, hlt, _, _, D, rfl, hI, rfl⟩
def f61.b (l1 : Sl) (n2 : Int) (k : Value → World → Prop) (w : World) : Prop :=
  f61.L2lp l1 n2 (none, 0, 0) 0 k w
theorem f61.den (l1 : Sl) (n2 : Int) (k : Value → World → Prop) (w : World) : pc Tryz.prog none (.seq none .none (.seq none .none (.seq (some (f61.J1p k)) (.seq none .none (.block (.at (f61.L2p k)))) .none))) f61.body (retQ Tryz.prog [.tmp 4] k) (fun _ => undef) 27 [26, 25] [slv l1, .int .i64 n2] [] w = f61.b l1 n2 k w := by kernel_rfl
theorem f61.okc {k : Value → World → Prop} : okC Tryz.prog none (.seq none .none (.seq none .none (.seq (some (f61.J1p k)) (.seq none .none (.block (.at (f61.L2p k)))) .none))) f61.body (retQ Tryz.prog [.tmp 4] k) :=
  Eq.mpr (by kernel_rfl : okC Tryz.prog none (.seq none .none (.seq none .none (.seq (some (f61.J1p k)) (.seq none .none (.block (.at (f61.L2p k)))) .none))) f61.body (retQ Tryz.prog [.tmp 4] k) = (((True) ∧ (((True) ∧ (((((True) ∧ (OKJ Tryz.prog none (f61.L2p k) (codeAt f61.body [1, 1, 0, 1, 0]) (f61.Q1 k)))) ∧ OKJ Tryz.prog none (f61.J1p k) (codeAt f61.body [1, 1, 1]) (f61.Q3 k)))))))) (⟨trivial, ⟨trivial, ⟨⟨trivial, f61.L2_ok⟩, f61.J1_ok⟩⟩⟩)
theorem f61.call {l1 : Sl} {n2 : Int} {k : Value → World → Prop} {w : World} (h : f61.b l1 n2 k w) : CALL Tryz.prog 61 #[slv l1, .int .i64 n2] k w :=
  calls_of_pc Tryz.mixed Tryz.func61 (by kernel_rfl : Tryz.f61.body = some f61.body) (Tryz.call61 _ _) (by kernel_rfl : #[slv l1, .int .i64 n2] ++ Array.replicate (Tryz.f61.ntmps - (#[slv l1, .int .i64 n2] : Array Value).size) undef = (FR (fun _ => undef) 27 [26, 25] [slv l1, .int .i64 n2]).toArray) (by kernel_rfl : Tryz.f61.results.toList = [.tmp 4]) f61.okc ((f61.den l1 n2 k w).symm ▸ h)

/-! (*rollcall/room.Room).Bans$1 -/
noncomputable def f63.body : Code := (Tryz.f63.body).getD .skip
def f63.b (v1 : Value) (k : Value → World → Prop) (w : World) : Prop :=
  k (.tuple #[]) w
theorem f63.den (v1 : Value) (k : Value → World → Prop) (w : World) : pc Tryz.prog none .none f63.body (retQ Tryz.prog [] k) (fun _ => undef) 2 [1] [v1] [] w = f63.b v1 k w := by kernel_rfl
theorem f63.okc {k : Value → World → Prop} : okC Tryz.prog none .none f63.body (retQ Tryz.prog [] k) :=
  Eq.mpr (by kernel_rfl : okC Tryz.prog none .none f63.body (retQ Tryz.prog [] k) = (True)) (trivial)
theorem f63.call {v1 : Value} {k : Value → World → Prop} {w : World} (h : f63.b v1 k w) : CALL Tryz.prog 63 #[v1] k w :=
  calls_of_pc Tryz.mixed Tryz.func63 (by kernel_rfl : Tryz.f63.body = some f63.body) (Tryz.call63 _ _) (by kernel_rfl : #[v1] ++ Array.replicate (Tryz.f63.ntmps - (#[v1] : Array Value).size) undef = (FR (fun _ => undef) 2 [1] [v1]).toArray) (by kernel_rfl : Tryz.f63.results.toList = []) f63.okc ((f63.den v1 k w).symm ▸ h)

/-! slices.Values[[]string,string] -/
noncomputable def f64.body : Code := (Tryz.f64.body).getD .skip
def f64.b (l1 : Sl) (k : Value → World → Prop) (w : World) : Prop :=
  AL (.cells #[slv l1] 34) (fun q2 w => k (.func (.func 98) #[] #[.pointer (some ⟨q2, 0, none⟩)]) w) w
theorem f64.den (l1 : Sl) (k : Value → World → Prop) (w : World) : pc Tryz.prog none .none f64.body (retQ Tryz.prog [.tmp 2] k) (fun _ => undef) 4 [3] [slv l1] [] w = f64.b l1 k w := by kernel_rfl
theorem f64.okc {k : Value → World → Prop} : okC Tryz.prog none .none f64.body (retQ Tryz.prog [.tmp 2] k) :=
  Eq.mpr (by kernel_rfl : okC Tryz.prog none .none f64.body (retQ Tryz.prog [.tmp 2] k) = (True)) (trivial)
theorem f64.call {l1 : Sl} {k : Value → World → Prop} {w : World} (h : f64.b l1 k w) : CALL Tryz.prog 64 #[slv l1] k w :=
  calls_of_pc Tryz.mixed Tryz.func64 (by kernel_rfl : Tryz.f64.body = some f64.body) (Tryz.call64 _ _) (by kernel_rfl : #[slv l1] ++ Array.replicate (Tryz.f64.ntmps - (#[slv l1] : Array Value).size) undef = (FR (fun _ => undef) 4 [3] [slv l1]).toArray) (by kernel_rfl : Tryz.f64.results.toList = [.tmp 2]) f64.okc ((f64.den l1 k w).symm ▸ h)

/-! slices.Clone[[]string,string] -/
noncomputable def f65.body : Code := (Tryz.f65.body).getD .skip
def f65.b (l1 : Sl) (k : Value → World → Prop) (w : World) : Prop :=
  brK l1.1.isNone (k (slv (none, 0, 0)) w) (AL (.cells #[] 9) (fun q2 w => APP 9 1 16 #[.string (⟨#[]⟩ : ByteArray)] ((some ⟨q2, 0, none⟩), 0, 0) l1.2.1 (fun w => cellsOfS w l1 (l1.2.1 * 1)) (fun l3 w => k (slv l3) w) w) w)
theorem f65.den (l1 : Sl) (k : Value → World → Prop) (w : World) : pc Tryz.prog none .none f65.body (retQ Tryz.prog [.tmp 2] k) (fun _ => undef) 8 [7] [slv l1] [] w = f65.b l1 k w := by kernel_rfl
theorem f65.okc {k : Value → World → Prop} : okC Tryz.prog none .none f65.body (retQ Tryz.prog [.tmp 2] k) :=
  Eq.mpr (by kernel_rfl : okC Tryz.prog none .none f65.body (retQ Tryz.prog [.tmp 2] k) = (True)) (trivial)
theorem f65.call {l1 : Sl} {k : Value → World → Prop} {w : World} (h : f65.b l1 k w) : CALL Tryz.prog 65 #[slv l1] k w :=
  calls_of_pc Tryz.mixed Tryz.func65 (by kernel_rfl : Tryz.f65.body = some f65.body) (Tryz.call65 _ _) (by kernel_rfl : #[slv l1] ++ Array.replicate (Tryz.f65.ntmps - (#[slv l1] : Array Value).size) undef = (FR (fun _ => undef) 8 [7] [slv l1]).toArray) (by kernel_rfl : Tryz.f65.results.toList = [.tmp 2]) f65.okc ((f65.den l1 k w).symm ▸ h)

/-! slices.BinarySearchFunc[[]rollcall/api.Member,rollcall/api.Member,int] -/
noncomputable def f66.body : Code := (Tryz.f66.body).getD .skip
def f66.J1 (l16 : Sl) (n17 : Int) (v18 : Value) (n19 : Int) (n20 : Int) (k : Value → World → Prop) (w : World) : Prop :=
  brK (decide (n20 < n19)) (IX l16 n20 3 (fun a21 => LD (Value.int .i64) (Addr.add a21 0) (fun n22 w => LD Value.bool (Addr.add a21 1) (fun b23 w => LD Value.bool (Addr.add a21 2) (fun b24 w => DYN Tryz.prog v18 #[.agg #[.int .i64 n22, .bool b23, .bool b24], .int .i64 n17] (fun v25 w => ∃ n26 : Int, v25 = .int .i64 n26 ∧ k (.tuple #[.int .i64 n20, .bool (n26 == 0)]) w) w) w) w) w)) (k (.tuple #[.int .i64 n20, .bool false]) w)
def f66.J1p (k : Value → World → Prop) : Act → World → Prop := PJ 49 [48, 47, 46, 40, 39] fun us ds w => un us fun v us => asS v fun l16 => un us fun v us => asI .i64 v fun n17 => un us fun v18 us => un us fun v us => asI .i64 v fun n19 => un us fun v us => asI .i64 v fun n20 => nl us (dn ds (f66.J1 l16 n17 v18 n19 n20 k w))
def f66.Q1 (k : Value → World → Prop) : Exit → Act → World → Prop := (Exit.inBlock 0 (Exit.then (f66.J1p k) (retQ Tryz.prog [.tmp 6, .tmp 7] k)))
def f66.L2k (Kn1 : Sl → Int → Value → Int → Int → Int → World → Prop) : Act → World → Prop := PJ 49 [48, 47, 46, 40, 39, 38] fun us ds w => un us fun v us => asS v fun l4 => un us fun v us => asI .i64 v fun n5 => un us fun v6 us => un us fun v us => asI .i64 v fun n7 => un us fun v us => asI .i64 v fun n8 => un us fun v us => asI .i64 v fun n9 => nl us (dn ds (Kn1 l4 n5 v6 n7 n8 n9 w))
def f66.Q2 (k : Value → World → Prop) : Exit → Act → World → Prop := (retQ Tryz.prog [.tmp 6, .tmp 7] k)
def f66.L2 (l4 : Sl) (n5 : Int) (v6 : Value) (n7 : Int) (n8 : Int) (n9 : Int) (Kn1 : Sl → Int → Value → Int → Int → Int → World → Prop) (k : Value → World → Prop) (w : World) : Prop :=
  brK (decide (n8 < n9)) (RQ ((0 : Int) ≤ 1) (IX l4 (IntKind.wrap .i64 (Int.fdiv (IntKind.wrap .u64 (IntKind.wrap .i64 (n8 + n9))) (2 ^ (min (Int.toNat 1) (IntKind.bits .u64))))) 3 (fun a10 => LD (Value.int .i64) (Addr.add a10 0) (fun n11 w => LD Value.bool (Addr.add a10 1) (fun b12 w => LD Value.bool (Addr.add a10 2) (fun b13 w => DYN Tryz.prog v6 #[.agg #[.int .i64 n11, .bool b12, .bool b13], .int .i64 n5] (fun v14 w => ∃ n15 : Int, v14 = .int .i64 n15 ∧ brK (decide (n15 < 0)) (Kn1 l4 n5 v6 n7 (IntKind.wrap .i64 ((IntKind.wrap .i64 (Int.fdiv (IntKind.wrap .u64 (IntKind.wrap .i64 (n8 + n9))) (2 ^ (min (Int.toNat 1) (IntKind.bits .u64))))) + 1)) n9 w) (Kn1 l4 n5 v6 n7 n8 (IntKind.wrap .i64 (Int.fdiv (IntKind.wrap .u64 (IntKind.wrap .i64 (n8 + n9))) (2 ^ (min (Int.toNat 1) (IntKind.bits .u64))))) w)) w) w) w) w))) (f66.J1 l4 n5 v6 n7 n8 k w)
def f66.L2lp (l4 : Sl) (n5 : Int) (v6 : Value) (n7 : Int) (n8 : Int) (n9 : Int) (k : Value → World → Prop) (w : World) : Prop := ∀ D : Nat → Value, (Code.loop (codeAt f66.body [1, 1, 1, 0, 0, 0])).wpIn (Wd none) 0 Tryz.prog (f66.Q1 k) (fr D 49 [48, 47, 46, 40, 39, 38] [slv l4, .int .i64 n5, v6, .int .i64 n7, .int .i64 n8, .int .i64 n9] []) w
def f66.L2p (k : Value → World → Prop) : Act → World → Prop := PJ 49 [48, 47, 46, 40, 39, 38] fun us ds w => un us fun v us => asS v fun l4 => un us fun v us => asI .i64 v fun n5 => un us fun v6 us => un us fun v us => asI .i64 v fun n7 => un us fun v us => asI .i64 v fun n8 => un us fun v us => asI .i64 v fun n9 => nl us (dn ds (f66.L2lp l4 n5 v6 n7 n8 n9 k w))
def f66.L2K (l4 : Sl) (n5 : Int) (v6 : Value) (n7 : Int) (I : Int → Int → World → Prop) (μ : Int → Int → World → Nat) (m : Nat) (l4' : Sl) (n5' : Int) (v6' : Value) (n7' : Int) (n8' : Int) (n9' : Int) (w : World) : Prop := (l4' = l4 ∧ n5' = n5 ∧ v6' = v6 ∧ n7' = n7) ∧ I n8' n9' w ∧ μ n8' n9' w < m
theorem f66.J1_den (D : Nat → Value) (l16 : Sl) (n17 : Int) (v18 : Value) (n19 : Int) (n20 : Int) (k : Value → World → Prop) (w : World) : pc Tryz.prog none .none (codeAt f66.body [1, 1, 1, 1]) (f66.Q2 k) D 49 [48, 47, 46, 40, 39] [slv l16, .int .i64 n17, v18, .int .i64 n19, .int .i64 n20] [] w = f66.J1 l16 n17 v18 n19 n20 k w := by kernel_rfl
theorem f66.J1_okc {k : Value → World → Prop} : okC Tryz.prog none .none (codeAt f66.body [1, 1, 1, 1]) (f66.Q2 k) :=
  Eq.mpr (by kernel_rfl : okC Tryz.prog none .none (codeAt f66.body [1, 1, 1, 1]) (f66.Q2 k) = (True)) (trivial)
theorem f66.J1_ok {k : Value → World → Prop} : OKJ Tryz.prog none (f66.J1p k) (codeAt f66.body [1, 1, 1, 1]) (f66.Q2 k) := by
  intro a w h
  obtain ⟨D, us, ds, rfl, h0⟩ := PJ_out h
  obtain ⟨v, us, rfl, h1⟩ := un_out h0
  obtain ⟨l16, rfl, h2⟩ := asS_out h1
  obtain ⟨v, us, rfl, h3⟩ := un_out h2
  obtain ⟨n17, rfl, h4⟩ := asI_out h3
  obtain ⟨v18, us, rfl, h5⟩ := un_out h4
  obtain ⟨v, us, rfl, h6⟩ := un_out h5
  obtain ⟨n19, rfl, h7⟩ := asI_out h6
  obtain ⟨v, us, rfl, h8⟩ := un_out h7
  obtain ⟨n20, rfl, h9⟩ := asI_out h8
  obtain ⟨rfl, h10⟩ := nl_out h9
  obtain ⟨rfl, h11⟩ := dn_out h10
  rw [← f66.J1_den D l16 n17 v18 n19 n20 k w] at h11
  exact pc_wp Tryz.mixed f66.J1_okc h11
theorem f66.L2_next {l4 : Sl} {n5 : Int} {v6 : Value} {n7 : Int} {I : Int → Int → World → Prop} {μ : Int → Int → World → Nat} {m : Nat} {n8 : Int} {n9 : Int} {w : World} (hI : I n8 n9 w) (hlt : μ n8 n9 w < m) : f66.L2K l4 n5 v6 n7 I μ m l4 n5 v6 n7 n8 n9 w := ⟨⟨rfl, rfl, rfl, rfl⟩, hI, hlt⟩
theorem f66.L2_den (D : Nat → Value) (l4 : Sl) (n5 : Int) (v6 : Value) (n7 : Int) (n8 : Int) (n9 : Int) (Kn1 : Sl → Int → Value → Int → Int → Int → World → Prop) (k : Value → World → Prop) (w : World) : pc Tryz.prog none .none (codeAt f66.body [1, 1, 1, 0, 0, 0]) (Exit.then (f66.L2k Kn1) (f66.Q1 k)) D 49 [48, 47, 46, 40, 39, 38] [slv l4, .int .i64 n5, v6, .int .i64 n7, .int .i64 n8, .int .i64 n9] [] w = f66.L2 l4 n5 v6 n7 n8 n9 Kn1 k w := by kernel_rfl
theorem f66.L2_okc {Kn1 : Sl → Int → Value → Int → Int → Int → World → Prop} {k : Value → World → Prop} : okC Tryz.prog none .none (codeAt f66.body [1, 1, 1, 0, 0, 0]) (Exit.then (f66.L2k Kn1) (f66.Q1 k)) :=
  Eq.mpr (by kernel_rfl : okC Tryz.prog none .none (codeAt f66.body [1, 1, 1, 0, 0, 0]) (Exit.then (f66.L2k Kn1) (f66.Q1 k)) = (True)) (trivial)
theorem f66.L2_ok {k : Value → World → Prop} : OKJ Tryz.prog none (f66.L2p k) (codeAt f66.body [1, 1, 1, 0, 0]) (f66.Q1 k) := by
  intro a w h
  obtain ⟨D, us, ds, rfl, h0⟩ := PJ_out h
  obtain ⟨v, us, rfl, h1⟩ := un_out h0
  obtain ⟨l4, rfl, h2⟩ := asS_out h1
  obtain ⟨v, us, rfl, h3⟩ := un_out h2
  obtain ⟨n5, rfl, h4⟩ := asI_out h3
  obtain ⟨v6, us, rfl, h5⟩ := un_out h4
  obtain ⟨v, us, rfl, h6⟩ := un_out h5
  obtain ⟨n7, rfl, h7⟩ := asI_out h6
  obtain ⟨v, us, rfl, h8⟩ := un_out h7
  obtain ⟨n8, rfl, h9⟩ := asI_out h8
  obtain ⟨v, us, rfl, h10⟩ := un_out h9
  obtain ⟨n9, rfl, h11⟩ := asI_out h10
  obtain ⟨rfl, h12⟩ := nl_out h11
  obtain ⟨rfl, h13⟩ := dn_out h12
  rw [show (codeAt f66.body [1, 1, 1, 0, 0]) = Code.loop (codeAt f66.body [1, 1, 1, 0, 0, 0]) by kernel_rfl]
  exact h13 D
theorem f66.L2_rule {l4 : Sl} {n5 : Int} {v6 : Value} {n7 : Int} {k : Value → World → Prop} (I : Int → Int → World → Prop) (μ : Int → Int → World → Nat) {n8 : Int} {n9 : Int} {w : World} (h0 : I n8 n9 w)
    (hr : ∀ (n8 : Int) (n9 : Int) (w : World), I n8 n9 w → f66.L2 l4 n5 v6 n7 n8 n9 (f66.L2K l4 n5 v6 n7 I μ (μ n8 n9 w)) k w) : f66.L2lp l4 n5 v6 n7 n8 n9 k w := by
  intro D0
  refine loop_ind (P := Tryz.prog) (fun m a w => ∃ n8 : Int, ∃ n9 : Int, ∃ D : Nat → Value, a = fr D 49 [48, 47, 46, 40, 39, 38] [slv l4, .int .i64 n5, v6, .int .i64 n7, .int .i64 n8, .int .i64 n9] [] ∧ I n8 n9 w ∧ μ n8 n9 w = m) ?_ (μ n8 n9 w) ⟨_, _, D0, rfl, h0, rfl⟩
  rintro m a w ⟨n8, n9, D, rfl, hI, rfl⟩
  have h := hr n8 n9 w hI
  rw [← f66.L2_den D l4 n5 v6 n7 n8 n9 (f66.L2K l4 n5 v6 n7 I μ (μ n8 n9 w)) k w] at h
  refine then_mono (pc_wp Tryz.mixed f66.L2_okc h) ?_
  clear h
  intro a w h
  obtain ⟨D, us, ds, rfl, h0⟩ := PJ_out h
  obtain ⟨v, us, rfl, h1⟩ := un_out h0
  obtain ⟨l4', rfl, h2⟩ := asS_out h1
  obtain ⟨v, us, rfl, h3⟩ := un_out h2
  obtain ⟨n5', rfl, h4⟩ := asI_out h3
  obtain ⟨v6', us, rfl, h5⟩ := un_out h4
  obtain ⟨v, us, rfl, h6⟩ := un_out h5
  obtain ⟨n7', rfl, h7⟩ := asI_out h6
  obtain ⟨v, us, rfl, h8⟩ := un_out h7
  obtain ⟨n8', rfl, h9⟩ := asI_out h8
  obtain ⟨v, us, rfl, h10⟩ := un_out h9
  obtain ⟨n9', rfl, h11⟩ := asI_out h10
  obtain ⟨rfl, h12⟩ := nl_out h11
  obtain ⟨rfl, h13⟩ := dn_out h12
  obtain ⟨⟨rfl, rfl, rfl, rfl⟩, hI, hlt⟩ := h13
  exact ⟨_, hlt, _, _, D, rfl, hI, rfl⟩
def f66.b (l1 : Sl) (n2 : Int) (v3 : Value) (k : Value → World → Prop) (w : World) : Prop :=
  f66.L2lp l1 n2 v3 ((l1.2.1 : Nat) : Int) 0 ((l1.2.1 : Nat) : Int) k w
theorem f66.den (l1 : Sl) (n2 : Int) (v3 : Value) (k : Value → World → Prop) (w : World) : pc Tryz.prog none (.seq none .none (.seq none .none (.seq none .none (.seq (some (f66.J1p k)) (.block (.at (f66.L2p k))) .none)))) f66.body (retQ Tryz.prog [.tmp 6, .tmp 7] k) (fun _ => undef) 49 [48, 47, 46] [slv l1, .int .i64 n2, v3] [] w = f66.b l1 n2 v3 k w := by kernel_rfl
theorem f66.okc {k : Value → World → Prop} : okC Tryz.prog none (.seq none .none (.seq none .none (.seq none .none (.seq (some (f66.J1p k)) (.block (.at (f66.L2p k))) .none)))) f66.body (retQ Tryz.prog [.tmp 6, .tmp 7] k) :=
  Eq.mpr (by kernel_rfl : okC Tryz.prog none (.seq none .none (.seq none .none (.seq none .none (.seq (some (f66.J1p k)) (.block (.at (f66.L2p k))) .none)))) f66.body (retQ Tryz.prog [.tmp 6, .tmp 7] k) = (((True) ∧ (((True) ∧ (((True) ∧ (((OKJ Tryz.prog none (f66.L2p k) (codeAt f66.body [1, 1, 1, 0, 0]) (f66.Q1 k)) ∧ OKJ Tryz.prog none (f66.J1p k) (codeAt f66.body [1, 1, 1, 1]) (f66.Q2 k)))))))))) (⟨trivial, ⟨trivial, ⟨trivial, ⟨f66.L2_ok, f66.J1_ok⟩⟩⟩⟩)
theorem f66.call {l1 : Sl} {n2 : Int} {v3 : Value} {k : Value → World → Prop} {w : World} (h : f66.b l1 n2 v3 k w) : CALL Tryz.prog 66 #[slv l1, .int .i64 n2, v3] k w :=
  calls_of_pc Tryz.mixed Tryz.func66 (by kernel_rfl : Tryz.f66.body = some f66.body) (Tryz.call66 _ _) (by kernel_rfl : #[slv l1, .int .i64 n2, v3] ++ Array.replicate (Tryz.f66.ntmps - (#[slv l1, .int .i64 n2, v3] : Array Value).size) undef = (FR (fun _ => undef) 49 [48, 47, 46] [slv l1, .int .i64 n2, v3]).toArray) (by kernel_rfl : Tryz.f66.results.toList = [.tmp 6, .tmp 7]) f66.okc ((f66.den l1 n2 v3 k w).symm ▸ h)

/-! (*rollcall/room.Room).at$1 -/
noncomputable def f67.body : Code := (Tryz.f67.body).getD .skip
def f67.b (n1 : Int) (b2 : Bool) (b3 : Bool) (n4 : Int) (k : Value → World → Prop) (w : World) : Prop :=
  AL (.cells #[.int .i64 n1, .bool b2, .bool b3] 39) (fun q5 w => LD (Value.int .i64) (Addr.add ⟨q5, 0, none⟩ 0) (fun n6 w => CALL Tryz.prog 68 #[.int .i64 n6, .int .i64 n4] (fun v7 w => ∃ n8 : Int, v7 = .int .i64 n8 ∧ k (.int .i64 n8) w) w) w) w
theorem f67.den (n1 : Int) (b2 : Bool) (b3 : Bool) (n4 : Int) (k : Value → World → Prop) (w : World) : pc Tryz.prog none .none f67.body (retQ Tryz.prog [.tmp 4] k) (fun _ => undef) 9 [8, 7] [.agg #[.int .i64 n1, .bool b2, .bool b3], .int .i64 n4] [] w = f67.b n1 b2 b3 n4 k w := by kernel_rfl
theorem f67.okc {k : Value → World → Prop} : okC Tryz.prog none .none f67.body (retQ Tryz.prog [.tmp 4] k) :=
  Eq.mpr (by kernel_rfl : okC Tryz.prog none .none f67.body (retQ Tryz.prog [.tmp 4] k) = (True)) (trivial)
theorem f67.call {n1 : Int} {b2 : Bool} {b3 : Bool} {n4 : Int} {k : Value → World → Prop} {w : World} (h : f67.b n1 b2 b3 n4 k w) : CALL Tryz.prog 67 #[.agg #[.int .i64 n1, .bool b2, .bool b3], .int .i64 n4] k w :=
  calls_of_pc Tryz.mixed Tryz.func67 (by kernel_rfl : Tryz.f67.body = some f67.body) (Tryz.call67 _ _) (by kernel_rfl : #[.agg #[.int .i64 n1, .bool b2, .bool b3], .int .i64 n4] ++ Array.replicate (Tryz.f67.ntmps - (#[.agg #[.int .i64 n1, .bool b2, .bool b3], .int .i64 n4] : Array Value).size) undef = (FR (fun _ => undef) 9 [8, 7] [.agg #[.int .i64 n1, .bool b2, .bool b3], .int .i64 n4]).toArray) (by kernel_rfl : Tryz.f67.results.toList = [.tmp 4]) f67.okc ((f67.den n1 b2 b3 n4 k w).symm ▸ h)

/-! cmp.Compare[int] -/
noncomputable def f68.body : Code := (Tryz.f68.body).getD .skip
def f68.b (n1 : Int) (n2 : Int) (k : Value → World → Prop) (w : World) : Prop :=
  CALL Tryz.prog 99 #[.int .i64 n1] (fun v3 w => ∃ b4 : Bool, v3 = .bool b4 ∧ CALL Tryz.prog 99 #[.int .i64 n2] (fun v5 w => ∃ b6 : Bool, v5 = .bool b6 ∧ brK b4 (brK b6 (k (.int .i64 0) w) (k (.int .i64 (-1)) w)) (brK b6 (k (.int .i64 1) w) (brK (decide (n1 < n2)) (k (.int .i64 (-1)) w) (brK (decide (n2 < n1)) (k (.int .i64 1) w) (k (.int .i64 0) w))))) w) w
theorem f68.den (n1 : Int) (n2 : Int) (k : Value → World → Prop) (w : World) : pc Tryz.prog none .none f68.body (retQ Tryz.prog [.tmp 4] k) (fun _ => undef) 20 [19, 18] [.int .i64 n1, .int .i64 n2] [] w = f68.b n1 n2 k w := by kernel_rfl
theorem f68.okc {k : Value → World → Prop} : okC Tryz.prog none .none f68.body (retQ Tryz.prog [.tmp 4] k) :=
  Eq.mpr (by kernel_rfl : okC Tryz.prog none .none f68.body (retQ Tryz.prog [.tmp 4] k) = (True)) (trivial)
theorem f68.call {n1 : Int} {n2 : Int} {k : Value → World → Prop} {w : World} (h : f68.b n1 n2 k w) : CALL Tryz.prog 68 #[.int .i64 n1, .int .i64 n2] k w :=
  calls_of_pc Tryz.mixed Tryz.func68 (by kernel_rfl : Tryz.f68.body = some f68.body) (Tryz.call68 _ _) (by kernel_rfl : #[.int .i64 n1, .int .i64 n2] ++ Array.replicate (Tryz.f68.ntmps - (#[.int .i64 n1, .int .i64 n2] : Array Value).size) undef = (FR (fun _ => undef) 20 [19, 18] [.int .i64 n1, .int .i64 n2]).toArray) (by kernel_rfl : Tryz.f68.results.toList = [.tmp 4]) f68.okc ((f68.den n1 n2 k w).symm ▸ h)

/-! rollcall/valid.Key -/
noncomputable def f69.body : Code := (Tryz.f69.body).getD .skip
def f69.b (s1 : ByteArray) (k : Value → World → Prop) (w : World) : Prop :=
  CALL Tryz.prog 100 #[.string s1, .int .i64 1, .int .i64 23, .int .u16 32] (fun v2 w => ∃ b3 : Bool, v2 = .bool b3 ∧ brK b3 (SIX s1 0 (fun c4 => k (.bool (c4 != 58)) w)) (k (.bool false) w)) w
theorem f69.den (s1 : ByteArray) (k : Value → World → Prop) (w : World) : pc Tryz.prog none .none f69.body (retQ Tryz.prog [.tmp 2] k) (fun _ => undef) 10 [9] [.string s1] [] w = f69.b s1 k w := by kernel_rfl
theorem f69.okc {k : Value → World → Prop} : okC Tryz.prog none .none f69.body (retQ Tryz.prog [.tmp 2] k) :=
  Eq.mpr (by kernel_rfl : okC Tryz.prog none .none f69.body (retQ Tryz.prog [.tmp 2] k) = (True)) (trivial)
theorem f69.call {s1 : ByteArray} {k : Value → World → Prop} {w : World} (h : f69.b s1 k w) : CALL Tryz.prog 69 #[.string s1] k w :=
  calls_of_pc Tryz.mixed Tryz.func69 (by kernel_rfl : Tryz.f69.body = some f69.body) (Tryz.call69 _ _) (by kernel_rfl : #[.string s1] ++ Array.replicate (Tryz.f69.ntmps - (#[.string s1] : Array Value).size) undef = (FR (fun _ => undef) 10 [9] [.string s1]).toArray) (by kernel_rfl : Tryz.f69.results.toList = [.tmp 2]) f69.okc ((f69.den s1 k w).symm ▸ h)

/-! rollcall/room.number -/
noncomputable def f70.body : Code := (Tryz.f70.body).getD .skip
def f70.J1 (s10 : ByteArray) (k : Value → World → Prop) (w : World) : Prop :=
  CALL Tryz.prog 102 #[.string s10] (fun v11 w => ∃ n12 : Int, ∃ v13 : Value, v11 = .tuple #[.int .i64 n12, v13] ∧ k (.int .i64 n12) w) w
def f70.J2 (s8 : ByteArray) (b9 : Bool) (k : Value → World → Prop) (w : World) : Prop :=
  brK b9 (k (.int .i64 0) w) (f70.J1 s8 k w)
def f70.J2p (k : Value → World → Prop) : Act → World → Prop := PJ 29 [28, 6] fun us ds w => un us fun v us => asStr v fun s8 => un us fun v us => asB v fun b9 => nl us (dn ds (f70.J2 s8 b9 k w))
def f70.J1p (k : Value → World → Prop) : Act → World → Prop := PJ 29 [28] fun us ds w => un us fun v us => asStr v fun s10 => nl us (dn ds (f70.J1 s10 k w))
def f70.Q1 (k : Value → World → Prop) : Exit → Act → World → Prop := (Exit.then (f70.J2p k) (Exit.then (f70.J1p k) (retQ Tryz.prog [.tmp 2] k)))
def f70.Q2 (k : Value → World → Prop) : Exit → Act → World → Prop := (Exit.then (f70.J1p k) (retQ Tryz.prog [.tmp 2] k))
def f70.Q3 (k : Value → World → Prop) : Exit → Act → World → Prop := (retQ Tryz.prog [.tmp 2] k)
def f70.O5 (s6 : ByteArray) (b7 : Bool) (k : Value → World → Prop) (w : World) : Prop :=
  brK b7 (f70.J2 s6 true k w) (CALL Tryz.prog 101 #[.string s6, .string (⟨#[48, 49, 50, 51, 52, 53, 54, 55, 56, 57]⟩ : ByteArray)] (fun v14 w => ∃ s15 : ByteArray, v14 = .string s15 ∧ f70.J2 s6 (!decide ((s15 : ByteArray) = (⟨#[]⟩ : ByteArray))) k w) w)
def f70.O5p (k : Value → World → Prop) : Act → World → Prop := PJ 29 [28, 10] fun us ds w => un us fun v us => asStr v fun s6 => un us fun v us => asB v fun b7 => nl us (dn ds (f70.O5 s6 b7 k w))
def f70.O4 (s4 : ByteArray) (b5 : Bool) (k : Value → World → Prop) (w : World) : Prop :=
  brK b5 (f70.O5 s4 true k w) (SIX s4 0 (fun c16 => f70.O5 s4 (c16 == 48) k w))
def f70.O4p (k : Value → World → Prop) : Act → World → Prop := PJ 29 [28, 15] fun us ds w => un us fun v us => asStr v fun s4 => un us fun v us => asB v fun b5 => nl us (dn ds (f70.O4 s4 b5 k w))
def f70.O3 (s2 : ByteArray) (b3 : Bool) (k : Value → World → Prop) (w : World) : Prop :=
  brK b3 (f70.O4 s2 true k w) (f70.O4 s2 (decide ((4 : Int) < ((s2.size : Nat) : Int))) k w)
def f70.O3p (k : Value → World → Prop) : Act → World → Prop := PJ 29 [28, 20] fun us ds w => un us fun v us => asStr v fun s2 => un us fun v us => asB v fun b3 => nl us (dn ds (f70.O3 s2 b3 k w))
theorem f70.J1_den (D : Nat → Value) (s10 : ByteArray) (k : Value → World → Prop) (w : World) : pc Tryz.prog none .none (codeAt f70.body [1, 1]) (f70.Q3 k) D 29 [28] [.string s10] [] w = f70.J1 s10 k w := by kernel_rfl
theorem f70.J1_okc {k : Value → World → Prop} : okC Tryz.prog none .none (codeAt f70.body [1, 1]) (f70.Q3 k) :=
  Eq.mpr (by kernel_rfl : okC Tryz.prog none .none (codeAt f70.body [1, 1]) (f70.Q3 k) = (True)) (trivial)
theorem f70.J1_ok {k : Value → World → Prop} : OKJ Tryz.prog none (f70.J1p k) (codeAt f70.body [1, 1]) (f70.Q3 k) := by
  intro a w h
  obtain ⟨D, us, ds, rfl, h0⟩ := PJ_out h
  obtain ⟨v, us, rfl, h1⟩ := un_out h0
  obtain ⟨s10, rfl, h2⟩ := asStr_out h1
  obtain ⟨rfl, h3⟩ := nl_out h2
  obtain ⟨rfl, h4⟩ := dn_out h3
  rw [← f70.J1_den D s10 k w] at h4
  exact pc_wp Tryz.mixed f70.J1_okc h4
theorem f70.J2_den (D : Nat → Value) (s8 : ByteArray) (b9 : Bool) (k : Value → World → Prop) (w : World) : pc Tryz.prog none .none (codeAt f70.body [1, 0, 1]) (f70.Q2 k) D 29 [28, 6] [.string s8, .bool b9] [] w = f70.J2 s8 b9 k w := by kernel_rfl
theorem f70.J2_okc {k : Value → World → Prop} : okC Tryz.prog none .none (codeAt f70.body [1, 0, 1]) (f70.Q2 k) :=
  Eq.mpr (by kernel_rfl : okC Tryz.prog none .none (codeAt f70.body [1, 0, 1]) (f70.Q2 k) = (True)) (trivial)
theorem f70.J2_ok {k : Value → World → Prop} : OKJ Tryz.prog none (f70.J2p k) (codeAt f70.body [1, 0, 1]) (f70.Q2 k) := by
  intro a w h
  obtain ⟨D, us, ds, rfl, h0⟩ := PJ_out h
  obtain ⟨v, us, rfl, h1⟩ := un_out h0
  obtain ⟨s8, rfl, h2⟩ := asStr_out h1
  obtain ⟨v, us, rfl, h3⟩ := un_out h2
  obtain ⟨b9, rfl, h4⟩ := asB_out h3
  obtain ⟨rfl, h5⟩ := nl_out h4
  obtain ⟨rfl, h6⟩ := dn_out h5
  rw [← f70.J2_den D s8 b9 k w] at h6
  exact pc_wp Tryz.mixed f70.J2_okc h6
theorem f70.O5_den (D : Nat → Value) (s6 : ByteArray) (b7 : Bool) (k : Value → World → Prop) (w : World) : (spK (FR D 29 [28, 10] [.string s6, .bool b7]) fun l => denOps Tryz.prog (opsAt (codeAt f70.body [1, 0, 0])) ((f70.Q1 k) .normal) (((opsAt (codeAt f70.body [1, 0, 0])).toList.drop 14).take 4) { tmps := l.toArray, defers := [] } w) = f70.O5 s6 b7 k w := by kernel_rfl
theorem f70.O5_ok {k : Value → World → Prop} : OKR Tryz.prog none (opsAt (codeAt f70.body [1, 0, 0])) (f70.O5p k) 14 (f70.Q1 k) := by
  intro a w h
  obtain ⟨D, us, ds, rfl, h0⟩ := PJ_out h
  obtain ⟨v, us, rfl, h1⟩ := un_out h0
  obtain ⟨s6, rfl, h2⟩ := asStr_out h1
  obtain ⟨v, us, rfl, h3⟩ := un_out h2
  obtain ⟨b7, rfl, h4⟩ := asB_out h3
  obtain ⟨rfl, h5⟩ := nl_out h4
  obtain ⟨rfl, h6⟩ := dn_out h5
  rw [← f70.O5_den D s6 b7 k w] at h6
  exact okr_of (m := 4) (okr_end (by kernel_rfl)) h6
theorem f70.O4_den (D : Nat → Value) (s4 : ByteArray) (b5 : Bool) (k : Value → World → Prop) (w : World) : (spK (FR D 29 [28, 15] [.string s4, .bool b5]) fun l => denOps Tryz.prog (opsAt (codeAt f70.body [1, 0, 0])) (f70.O5p k) (((opsAt (codeAt f70.body [1, 0, 0])).toList.drop 9).take 5) { tmps := l.toArray, defers := [] } w) = f70.O4 s4 b5 k w := by kernel_rfl
theorem f70.O4_ok {k : Value → World → Prop} : OKR Tryz.prog none (opsAt (codeAt f70.body [1, 0, 0])) (f70.O4p k) 9 (f70.Q1 k) := by
  intro a w h
  obtain ⟨D, us, ds, rfl, h0⟩ := PJ_out h
  obtain ⟨v, us, rfl, h1⟩ := un_out h0
  obtain ⟨s4, rfl, h2⟩ := asStr_out h1
  obtain ⟨v, us, rfl, h3⟩ := un_out h2
  obtain ⟨b5, rfl, h4⟩ := asB_out h3
  obtain ⟨rfl, h5⟩ := nl_out h4
  obtain ⟨rfl, h6⟩ := dn_out h5
  rw [← f70.O4_den D s4 b5 k w] at h6
  exact okr_of (m := 5) f70.O5_ok h6
theorem f70.O3_den (D : Nat → Value) (s2 : ByteArray) (b3 : Bool) (k : Value → World → Prop) (w : World) : (spK (FR D 29 [28, 20] [.string s2, .bool b3]) fun l => denOps Tryz.prog (opsAt (codeAt f70.body [1, 0, 0])) (f70.O4p k) (((opsAt (codeAt f70.body [1, 0, 0])).toList.drop 4).take 5) { tmps := l.toArray, defers := [] } w) = f70.O3 s2 b3 k w := by kernel_rfl
theorem f70.O3_ok {k : Value → World → Prop} : OKR Tryz.prog none (opsAt (codeAt f70.body [1, 0, 0])) (f70.O3p k) 4 (f70.Q1 k) := by
  intro a w h
  obtain ⟨D, us, ds, rfl, h0⟩ := PJ_out h
  obtain ⟨v, us, rfl, h1⟩ := un_out h0
  obtain ⟨s2, rfl, h2⟩ := asStr_out h1
  obtain ⟨v, us, rfl, h3⟩ := un_out h2
  obtain ⟨b3, rfl, h4⟩ := asB_out h3
  obtain ⟨rfl, h5⟩ := nl_out h4
  obtain ⟨rfl, h6⟩ := dn_out h5
  rw [← f70.O3_den D s2 b3 k w] at h6
  exact okr_of (m := 5) f70.O4_ok h6
def f70.b (s1 : ByteArray) (k : Value → World → Prop) (w : World) : Prop :=
  f70.O3 s1 (decide (((s1.size : Nat) : Int) < 1)) k w
theorem f70.den (s1 : ByteArray) (k : Value → World → Prop) (w : World) : pc Tryz.prog none (.seq none .none (.seq (some (f70.J1p k)) (.seq (some (f70.J2p k)) (.reg 4 (f70.O3p k)) .none) .none)) f70.body (retQ Tryz.prog [.tmp 2] k) (fun _ => undef) 29 [28] [.string s1] [] w = f70.b s1 k w := by kernel_rfl
theorem f70.okc {k : Value → World → Prop} : okC Tryz.prog none (.seq none .none (.seq (some (f70.J1p k)) (.seq (some (f70.J2p k)) (.reg 4 (f70.O3p k)) .none) .none)) f70.body (retQ Tryz.prog [.tmp 2] k) :=
  Eq.mpr (by kernel_rfl : okC Tryz.prog none (.seq none .none (.seq (some (f70.J1p k)) (.seq (some (f70.J2p k)) (.reg 4 (f70.O3p k)) .none) .none)) f70.body (retQ Tryz.prog [.tmp 2] k) = (((True) ∧ (((((OKR Tryz.prog none (opsAt (codeAt f70.body [1, 0, 0])) (f70.O3p k) 4 (f70.Q1 k)) ∧ OKJ Tryz.prog none (f70.J2p k) (codeAt f70.body [1, 0, 1]) (f70.Q2 k))) ∧ OKJ Tryz.prog none (f70.J1p k) (codeAt f70.body [1, 1]) (f70.Q3 k)))))) (⟨trivial, ⟨⟨f70.O3_ok, f70.J2_ok⟩, f70.J1_ok⟩⟩)
theorem f70.call {s1 : ByteArray} {k : Value → World → Prop} {w : World} (h : f70.b s1 k w) : CALL Tryz.prog 70 #[.string s1] k w :=
  calls_of_pc Tryz.mixed Tryz.func70 (by kernel_rfl : Tryz.f70.body = some f70.body) (Tryz.call70 _ _) (by kernel_rfl : #[.string s1] ++ Array.replicate (Tryz.f70.ntmps - (#[.string s1] : Array Value).size) undef = (FR (fun _ => undef) 29 [28] [.string s1]).toArray) (by kernel_rfl : Tryz.f70.results.toList = [.tmp 2]) f70.okc ((f70.den s1 k w).symm ▸ h)

/-! rollcall/glob.Complete -/
noncomputable def f71.body : Code := (Tryz.f71.body).getD .skip
def f71.Q1 (k : Value → World → Prop) : Exit → Act → World → Prop := (retQ Tryz.prog [.tmp 2] k)
def f71.J1 (s6 : ByteArray) (s7 : ByteArray) (k : Value → World → Prop) (w : World) : Prop :=
  CALL Tryz.prog 103 #[.string s7, .string (⟨#[64]⟩ : ByteArray)] (fun v8 w => ∃ s9 : ByteArray, ∃ s10 : ByteArray, ∃ b11 : Bool, v8 = .tuple #[.string s9, .string s10, .bool b11] ∧ CALL Tryz.prog 104 #[.string s6] (fun v12 w => ∃ s13 : ByteArray, v12 = .string s13 ∧ RQ (((s13.size + (⟨#[33]⟩ : ByteArray).size : Nat) : Int) ≤ 9223372036854775807) (CALL Tryz.prog 104 #[.string s9] (fun v14 w => ∃ s15 : ByteArray, v14 = .string s15 ∧ RQ ((((s13 ++ (⟨#[33]⟩ : ByteArray)).size + s15.size : Nat) : Int) ≤ 9223372036854775807) (RQ (((((s13 ++ (⟨#[33]⟩ : ByteArray)) ++ s15).size + (⟨#[64]⟩ : ByteArray).size : Nat) : Int) ≤ 9223372036854775807) (CALL Tryz.prog 104 #[.string s10] (fun v16 w => ∃ s17 : ByteArray, v16 = .string s17 ∧ RQ ((((((s13 ++ (⟨#[33]⟩ : ByteArray)) ++ s15) ++ (⟨#[64]⟩ : ByteArray)).size + s17.size : Nat) : Int) ≤ 9223372036854775807) (k (.string ((((s13 ++ (⟨#[33]⟩ : ByteArray)) ++ s15) ++ (⟨#[64]⟩ : ByteArray)) ++ s17)) w)) w))) w)) w) w
def f71.J1p (k : Value → World → Prop) : Act → World → Prop := PJ 54 [50, 49] fun us ds w => un us fun v us => asStr v fun s6 => un us fun v us => asStr v fun s7 => nl us (dn ds (f71.J1 s6 s7 k w))
theorem f71.J1_den (D : Nat → Value) (s6 : ByteArray) (s7 : ByteArray) (k : Value → World → Prop) (w : World) : pc Tryz.prog none .none (codeAt f71.body [1, 1, 1, 1]) (f71.Q1 k) D 54 [50, 49] [.string s6, .string s7] [] w = f71.J1 s6 s7 k w := by kernel_rfl
theorem f71.J1_okc {k : Value → World → Prop} : okC Tryz.prog none .none (codeAt f71.body [1, 1, 1, 1]) (f71.Q1 k) :=
  Eq.mpr (by kernel_rfl : okC Tryz.prog none .none (codeAt f71.body [1, 1, 1, 1]) (f71.Q1 k) = (True)) (trivial)
theorem f71.J1_ok {k : Value → World → Prop} : OKJ Tryz.prog none (f71.J1p k) (codeAt f71.body [1, 1, 1, 1]) (f71.Q1 k) := by
  intro a w h
  obtain ⟨D, us, ds, rfl, h0⟩ := PJ_out h
  obtain ⟨v, us, rfl, h1⟩ := un_out h0
  obtain ⟨s6, rfl, h2⟩ := asStr_out h1
  obtain ⟨v, us, rfl, h3⟩ := un_out h2
  obtain ⟨s7, rfl, h4⟩ := asStr_out h3
  obtain ⟨rfl, h5⟩ := nl_out h4
  obtain ⟨rfl, h6⟩ := dn_out h5
  rw [← f71.J1_den D s6 s7 k w] at h6
  exact pc_wp Tryz.mixed f71.J1_okc h6
def f71.b (s1 : ByteArray) (k : Value → World → Prop) (w : World) : Prop :=
  CALL Tryz.prog 82 #[.string s1, .int .u8 33] (fun v2 w => ∃ n3 : Int, v2 = .int .i64 n3 ∧ CALL Tryz.prog 82 #[.string s1, .int .u8 64] (fun v4 w => ∃ n5 : Int, v4 = .int .i64 n5 ∧ brK (decide ((0 : Int) ≤ n3)) (brK (decide (n5 < 0)) (DR (fun w => RQ (0 ≤ (n3 : Int) ∧ (n3 : Int) ≤ ((s1.size : Nat) : Int)) (RQ (0 ≤ (IntKind.wrap .i64 (n3 + 1) : Int) ∧ (IntKind.wrap .i64 (n3 + 1) : Int) ≤ ((s1.size : Nat) : Int)) (f71.J1 (s1.extract 0 ((n3 : Int).toNat)) (s1.extract ((IntKind.wrap .i64 (n3 + 1) : Int).toNat) s1.size) k w))) w) (brK (decide (n3 < n5)) (DR (fun w => RQ (0 ≤ (n3 : Int) ∧ (n3 : Int) ≤ ((s1.size : Nat) : Int)) (RQ (0 ≤ (IntKind.wrap .i64 (n3 + 1) : Int) ∧ (IntKind.wrap .i64 (n3 + 1) : Int) ≤ ((s1.size : Nat) : Int)) (f71.J1 (s1.extract 0 ((n3 : Int).toNat)) (s1.extract ((IntKind.wrap .i64 (n3 + 1) : Int).toNat) s1.size) k w))) w) (brK (decide ((0 : Int) ≤ n5)) (f71.J1 (⟨#[]⟩ : ByteArray) s1 k w) (f71.J1 s1 (⟨#[]⟩ : ByteArray) k w)))) (brK (decide ((0 : Int) ≤ n5)) (f71.J1 (⟨#[]⟩ : ByteArray) s1 k w) (f71.J1 s1 (⟨#[]⟩ : ByteArray) k w))) w) w
theorem f71.den (s1 : ByteArray) (k : Value → World → Prop) (w : World) : pc Tryz.prog none (.seq none .none (.seq none .none (.seq none .none (.seq (some (f71.J1p k)) .none .none)))) f71.body (retQ Tryz.prog [.tmp 2] k) (fun _ => undef) 54 [53] [.string s1] [] w = f71.b s1 k w := by kernel_rfl
theorem f71.okc {k : Value → World → Prop} : okC Tryz.prog none (.seq none .none (.seq none .none (.seq none .none (.seq (some (f71.J1p k)) .none .none)))) f71.body (retQ Tryz.prog [.tmp 2] k) :=
  Eq.mpr (by kernel_rfl : okC Tryz.prog none (.seq none .none (.seq none .none (.seq none .none (.seq (some (f71.J1p k)) .none .none)))) f71.body (retQ Tryz.prog [.tmp 2] k) = (((True) ∧ (((True) ∧ (((True) ∧ (((True) ∧ OKJ Tryz.prog none (f71.J1p k) (codeAt f71.body [1, 1, 1, 1]) (f71.Q1 k)))))))))) (⟨trivial, ⟨trivial, ⟨trivial, ⟨trivial, f71.J1_ok⟩⟩⟩⟩)
theorem f71.call {s1 : ByteArray} {k : Value → World → Prop} {w : World} (h : f71.b s1 k w) : CALL Tryz.prog 71 #[.string s1] k w :=
  calls_of_pc Tryz.mixed Tryz.func71 (by kernel_rfl : Tryz.f71.body = some f71.body) (Tryz.call71 _ _) (by kernel_rfl : #[.string s1] ++ Array.replicate (Tryz.f71.ntmps - (#[.string s1] : Array Value).size) undef = (FR (fun _ => undef) 54 [53] [.string s1]).toArray) (by kernel_rfl : Tryz.f71.results.toList = [.tmp 2]) f71.okc ((f71.den s1 k w).symm ▸ h)

/-! slices.IndexFunc[[]string,string] -/
noncomputable def f73.body : Code := (Tryz.f73.body).getD .skip
def f73.J1 (k : Value → World → Prop) (w : World) : Prop :=
  k (.int .i64 (-1)) w
def f73.J1p (k : Value → World → Prop) : Act → World → Prop := PJ 19 [] fun us ds w => nl us (dn ds (f73.J1 k w))
def f73.Q1 (k : Value → World → Prop) : Exit → Act → World → Prop := (Exit.inBlock 0 (Exit.then (f73.J1p k) (retQ Tryz.prog [.tmp 4] k)))
def f73.L2k (Kn1 : Sl → Value → Int → Int → World → Prop) : Act → World → Prop := PJ 19 [18, 17, 11, 10] fun us ds w => un us fun v us => asS v fun l3 => un us fun v4 us => un us fun v us => asI .i64 v fun n5 => un us fun v us => asI .i64 v fun n6 => nl us (dn ds (Kn1 l3 v4 n5 n6 w))
def f73.Q2 (k : Value → World → Prop) : Exit → Act → World → Prop := (retQ Tryz.prog [.tmp 4] k)
def f73.L2 (l3 : Sl) (v4 : Value) (n5 : Int) (n6 : Int) (Kn1 : Sl → Value → Int → Int → World → Prop) (k : Value → World → Prop) (w : World) : Prop :=
  brK (decide (n6 < n5)) (IX l3 n6 1 (fun a7 => LD Value.string a7 (fun s8 w => DYN Tryz.prog v4 #[.string s8] (fun v9 w => ∃ b10 : Bool, v9 = .bool b10 ∧ brK b10 (k (.int .i64 n6) w) (Kn1 l3 v4 n5 (IntKind.wrap .i64 (n6 + 1)) w)) w) w)) (f73.J1 k w)
def f73.L2lp (l3 : Sl) (v4 : Value) (n5 : Int) (n6 : Int) (k : Value → World → Prop) (w : World) : Prop := ∀ D : Nat → Value, (Code.loop (codeAt f73.body [1, 0, 1, 0, 0])).wpIn (Wd none) 0 Tryz.prog (f73.Q1 k) (fr D 19 [18, 17, 11, 10] [slv l3, v4, .int .i64 n5, .int .i64 n6] []) w
def f73.L2p (k : Value → World → Prop) : Act → World → Prop := PJ 19 [18, 17, 11, 10] fun us ds w => un us fun v us => asS v fun l3 => un us fun v4 us => un us fun v us => asI .i64 v fun n5 => un us fun v us => asI .i64 v fun n6 => nl us (dn ds (f73.L2lp l3 v4 n5 n6 k w))
def f73.L2K (l3 : Sl) (v4 : Value) (n5 : Int) (I : Int → World → Prop) (μ : Int → World → Nat) (m : Nat) (l3' : Sl) (v4' : Value) (n5' : Int) (n6' : Int) (w : World) : Prop := (l3' = l3 ∧ v4' = v4 ∧ n5' = n5) ∧ I n6' w ∧ μ n6' w < m
theorem f73.J1_den (D : Nat → Value) (k : Value → World → Prop) (w : World) : pc Tryz.prog none .none (codeAt f73.body [1, 1]) (f73.Q2 k) D 19 [] [] [] w = f73.J1 k w := by kernel_rfl
theorem f73.J1_okc {k : Value → World → Prop} : okC Tryz.prog none .none (codeAt f73.body [1, 1]) (f73.Q2 k) :=
  Eq.mpr (by kernel_rfl : okC Tryz.prog none .none (codeAt f73.body [1, 1]) (f73.Q2 k) = (True)) (trivial)
theorem f73.J1_ok {k : Value → World → Prop} : OKJ Tryz.prog none (f73.J1p k) (codeAt f73.body [1, 1]) (f73.Q2 k) := by
  intro a w h
  obtain ⟨D, us, ds, rfl, h0⟩ := PJ_out h
  obtain ⟨rfl, h1⟩ := nl_out h0
  obtain ⟨rfl, h2⟩ := dn_out h1
  rw [← f73.J1_den D k w] at h2
  exact pc_wp Tryz.mixed f73.J1_okc h2
theorem f73.L2_next {l3 : Sl} {v4 : Value} {n5 : Int} {I : Int → World → Prop} {μ : Int → World → Nat} {m : Nat} {n6 : Int} {w : World} (hI : I n6 w) (hlt : μ n6 w < m) : f73.L2K l3 v4 n5 I μ m l3 v4 n5 n6 w := ⟨⟨rfl, rfl, rfl⟩, hI, hlt⟩
theorem f73.L2_den (D : Nat → Value) (l3 : Sl) (v4 : Value) (n5 : Int) (n6 : Int) (Kn1 : Sl → Value → Int → Int → World → Prop) (k : Value → World → Prop) (w : World) : pc Tryz.prog none .none (codeAt f73.body [1, 0, 1, 0, 0]) (Exit.then (f73.L2k Kn1) (f73.Q1 k)) D 19 [18, 17, 11, 10] [slv l3, v4, .int .i64 n5, .int .i64 n6] [] w = f73.L2 l3 v4 n5 n6 Kn1 k w := by kernel_rfl
theorem f73.L2_okc {Kn1 : Sl → Value → Int → Int → World → Prop} {k : Value → World → Prop} : okC Tryz.prog none .none (codeAt f73.body [1, 0, 1, 0, 0]) (Exit.then (f73.L2k Kn1) (f73.Q1 k)) :=
  Eq.mpr (by kernel_rfl : okC Tryz.prog none .none (codeAt f73.body [1, 0, 1, 0, 0]) (Exit.then (f73.L2k Kn1) (f73.Q1 k)) = (True)) (trivial)
theorem f73.L2_ok {k : Value → World → Prop} : OKJ Tryz.prog none (f73.L2p k) (codeAt f73.body [1, 0, 1, 0]) (f73.Q1 k) := by
  intro a w h
  obtain ⟨D, us, ds, rfl, h0⟩ := PJ_out h
  obtain ⟨v, us, rfl, h1⟩ := un_out h0
  obtain ⟨l3, rfl, h2⟩ := asS_out h1
  obtain ⟨v4, us, rfl, h3⟩ := un_out h2
  obtain ⟨v, us, rfl, h4⟩ := un_out h3
  obtain ⟨n5, rfl, h5⟩ := asI_out h4
  obtain ⟨v, us, rfl, h6⟩ := un_out h5
  obtain ⟨n6, rfl, h7⟩ := asI_out h6
  obtain ⟨rfl, h8⟩ := nl_out h7
  obtain ⟨rfl, h9⟩ := dn_out h8
  rw [show (codeAt f73.body [1, 0, 1, 0]) = Code.loop (codeAt f73.body [1, 0, 1, 0, 0]) by kernel_rfl]
  exact h9 D
theorem f73.L2_rule {l3 : Sl} {v4 : Value} {n5 : Int} {k : Value → World → Prop} (I : Int → World → Prop) (μ : Int → World → Nat) {n6 : Int} {w : World} (h0 : I n6 w)
    (hr : ∀ (n6 : Int) (w : World), I n6 w → f73.L2 l3 v4 n5 n6 (f73.L2K l3 v4 n5 I μ (μ n6 w)) k w) : f73.L2lp l3 v4 n5 n6 k w := by
  intro D0
  refine loop_ind (P := Tryz.prog) (fun m a w => ∃ n6 : Int, ∃ D : Nat → Value, a = fr D 19 [18, 17, 11, 10] [slv l3, v4, .int .i64 n5, .int .i64 n6] [] ∧ I n6 w ∧ μ n6 w = m) ?_ (μ n6 w) ⟨_, D0, rfl, h0, rfl⟩
  rintro m a w ⟨n6, D, rfl, hI, rfl⟩
  have h := hr n6 w hI
  rw [← f73.L2_den D l3 v4 n5 n6 (f73.L2K l3 v4 n5 I μ (μ n6 w)) k w] at h
  refine then_mono (pc_wp Tryz.mixed f73.L2_okc h) ?_
  clear h
  intro a w h
  obtain ⟨D, us, ds, rfl, h0⟩ := PJ_out h
  obtain ⟨v, us, rfl, h1⟩ := un_out h0
  obtain ⟨l3', rfl, h2⟩ := asS_out h1
  obtain ⟨v4', us, rfl, h3⟩ := un_out h2
  obtain ⟨v, us, rfl, h4⟩ := un_out h3
  obtain ⟨n5', rfl, h5⟩ := asI_out h4
  obtain ⟨v, us, rfl, h6⟩ := un_out h5
  obtain ⟨n6', rfl, h7⟩ := asI_out h6
  obtain ⟨rfl, h8⟩ := nl_out h7
  obtain ⟨rfl, h9⟩ := dn_out h8
  obtain ⟨⟨rfl, rfl, rfl⟩, hI, hlt⟩ := h9
  exact ⟨_, hlt, _, D, rfl, hI, rfl⟩
def f73.b (l1 : Sl) (v2 : Value) (k : Value → World → Prop) (w : World) : Prop :=
  f73.L2lp l1 v2 ((l1.2.1 : Nat) : Int) 0 k w
theorem f73.den (l1 : Sl) (v2 : Value) (k : Value → World → Prop) (w : World) : pc Tryz.prog none (.seq none .none (.seq (some (f73.J1p k)) (.seq none .none (.block (.at (f73.L2p k)))) .none)) f73.body (retQ Tryz.prog [.tmp 4] k) (fun _ => undef) 19 [18, 17] [slv l1, v2] [] w = f73.b l1 v2 k w := by kernel_rfl
theorem f73.okc {k : Value → World → Prop} : okC Tryz.prog none (.seq none .none (.seq (some (f73.J1p k)) (.seq none .none (.block (.at (f73.L2p k)))) .none)) f73.body (retQ Tryz.prog [.tmp 4] k) :=
  Eq.mpr (by kernel_rfl : okC Tryz.prog none (.seq none .none (.seq (some (f73.J1p k)) (.seq none .none (.block (.at (f73.L2p k)))) .none)) f73.body (retQ Tryz.prog [.tmp 4] k) = (((True) ∧ (((((True) ∧ (OKJ Tryz.prog none (f73.L2p k) (codeAt f73.body [1, 0, 1, 0]) (f73.Q1 k)))) ∧ OKJ Tryz.prog none (f73.J1p k) (codeAt f73.body [1, 1]) (f73.Q2 k)))))) (⟨trivial, ⟨⟨trivial, f73.L2_ok⟩, f73.J1_ok⟩⟩)
theorem f73.call {l1 : Sl} {v2 : Value} {k : Value → World → Prop} {w : World} (h : f73.b l1 v2 k w) : CALL Tryz.prog 73 #[slv l1, v2] k w :=
  calls_of_pc Tryz.mixed Tryz.func73 (by kernel_rfl : Tryz.f73.body = some f73.body) (Tryz.call73 _ _) (by kernel_rfl : #[slv l1, v2] ++ Array.replicate (Tryz.f73.ntmps - (#[slv l1, v2] : Array Value).size) undef = (FR (fun _ => undef) 19 [18, 17] [slv l1, v2]).toArray) (by kernel_rfl : Tryz.f73.results.toList = [.tmp 4]) f73.okc ((f73.den l1 v2 k w).symm ▸ h)

/-! (*rollcall/room.Room).ban$1 -/
noncomputable def f74.body : Code := (Tryz.f74.body).getD .skip
def f74.b (s1 : ByteArray) (q2 : Nat) (k : Value → World → Prop) (w : World) : Prop :=
  LD Value.string (Addr.add ⟨q2, 0, none⟩ 2) (fun s3 w => CALL Tryz.prog 75 #[.string s1, .string s3] (fun v4 w => ∃ b5 : Bool, v4 = .bool b5 ∧ k (.bool b5) w) w) w
theorem f74.den (s1 : ByteArray) (q2 : Nat) (k : Value → World → Prop) (w : World) : pc Tryz.prog none .none f74.body (retQ Tryz.prog [.tmp 3] k) (fun _ => undef) 8 [7, 6] [.string s1, .pointer (some ⟨q2, 0, none⟩)] [] w = f74.b s1 q2 k w := by kernel_rfl
theorem f74.okc {k : Value → World → Prop} : okC Tryz.prog none .none f74.body (retQ Tryz.prog [.tmp 3] k) :=
  Eq.mpr (by kernel_rfl : okC Tryz.prog none .none f74.body (retQ Tryz.prog [.tmp 3] k) = (True)) (trivial)
theorem f74.call {s1 : ByteArray} {q2 : Nat} {k : Value → World → Prop} {w : World} (h : f74.b s1 q2 k w) : CALL Tryz.prog 74 #[.string s1, .pointer (some ⟨q2, 0, none⟩)] k w :=
  calls_of_pc Tryz.mixed Tryz.func74 (by kernel_rfl : Tryz.f74.body = some f74.body) (Tryz.call74 _ _) (by kernel_rfl : #[.string s1, .pointer (some ⟨q2, 0, none⟩)] ++ Array.replicate (Tryz.f74.ntmps - (#[.string s1, .pointer (some ⟨q2, 0, none⟩)] : Array Value).size) undef = (FR (fun _ => undef) 8 [7, 6] [.string s1, .pointer (some ⟨q2, 0, none⟩)]).toArray) (by kernel_rfl : Tryz.f74.results.toList = [.tmp 3]) f74.okc ((f74.den s1 q2 k w).symm ▸ h)

/-! rollcall/fold.Same -/
noncomputable def f75.body : Code := (Tryz.f75.body).getD .skip
def f75.b (s1 : ByteArray) (s2 : ByteArray) (k : Value → World → Prop) (w : World) : Prop :=
  brK (((s1.size : Nat) : Int) == ((s2.size : Nat) : Int)) (CALL Tryz.prog 106 #[.string s1, .string s2] (fun v3 w => ∃ n4 : Int, v3 = .int .i64 n4 ∧ k (.bool (n4 == 0)) w) w) (k (.bool false) w)
theorem f75.den (s1 : ByteArray) (s2 : ByteArray) (k : Value → World → Prop) (w : World) : pc Tryz.prog none .none f75.body (retQ Tryz.prog [.tmp 4] k) (fun _ => undef) 16 [15, 14] [.string s1, .string s2] [] w = f75.b s1 s2 k w := by kernel_rfl
theorem f75.okc {k : Value → World → Prop} : okC Tryz.prog none .none f75.body (retQ Tryz.prog [.tmp 4] k) :=
  Eq.mpr (by kernel_rfl : okC Tryz.prog none .none f75.body (retQ Tryz.prog [.tmp 4] k) = (True)) (trivial)
theorem f75.call {s1 : ByteArray} {s2 : ByteArray} {k : Value → World → Prop} {w : World} (h : f75.b s1 s2 k w) : CALL Tryz.prog 75 #[.string s1, .string s2] k w :=
  calls_of_pc Tryz.mixed Tryz.func75 (by kernel_rfl : Tryz.f75.body = some f75.body) (Tryz.call75 _ _) (by kernel_rfl : #[.string s1, .string s2] ++ Array.replicate (Tryz.f75.ntmps - (#[.string s1, .string s2] : Array Value).size) undef = (FR (fun _ => undef) 16 [15, 14] [.string s1, .string s2]).toArray) (by kernel_rfl : Tryz.f75.results.toList = [.tmp 4]) f75.okc ((f75.den s1 s2 k w).symm ▸ h)

/-! slices.Delete[[]string,string] -/
noncomputable def f76.body : Code := (Tryz.f76.body).getD .skip
def f76.b (l1 : Sl) (n2 : Int) (n3 : Int) (k : Value → World → Prop) (w : World) : Prop :=
  RQ (0 ≤ (((l1.2.1 : Nat) : Int) : Int) ∧ (((l1.2.1 : Nat) : Int) : Int) ≤ ((l1.2.2 : Nat) : Int)) (RQ (0 ≤ (n3 : Int) ∧ (n3 : Int) ≤ (((((l1.2.1 : Nat) : Int) : Int).toNat : Nat) : Int)) (RQ (0 ≤ (n2 : Int) ∧ (n2 : Int) ≤ (((n3 : Int).toNat : Nat) : Int)) (brK (n2 == n3) (k (slv l1) w) (DR (fun w => RQ (0 ≤ (n2 : Int) ∧ (n2 : Int) ≤ ((l1.2.2 : Nat) : Int)) (RQ (0 ≤ (n3 : Int) ∧ (n3 : Int) ≤ ((l1.2.1 : Nat) : Int)) (APP 9 1 16 #[.string (⟨#[]⟩ : ByteArray)] (slSub l1 0 ((n2 : Int).toNat) 1) ((slSub l1 ((n3 : Int).toNat) l1.2.1 1).2.1) (fun w => cellsOfS w (slSub l1 ((n3 : Int).toNat) l1.2.1 1) (((slSub l1 ((n3 : Int).toNat) l1.2.1 1).2.1) * 1)) (fun l4 w => RQ (0 ≤ (((l1.2.1 : Nat) : Int) : Int) ∧ (((l1.2.1 : Nat) : Int) : Int) ≤ ((l4.2.2 : Nat) : Int)) (RQ (0 ≤ (((l4.2.1 : Nat) : Int) : Int) ∧ (((l4.2.1 : Nat) : Int) : Int) ≤ (((((l1.2.1 : Nat) : Int) : Int).toNat : Nat) : Int)) (CLR #[.string (⟨#[]⟩ : ByteArray)] (slSub l4 ((((l4.2.1 : Nat) : Int) : Int).toNat) ((((l1.2.1 : Nat) : Int) : Int).toNat) 1) (fun w => k (slv l4) w) w))) w))) w))))
theorem f76.den (l1 : Sl) (n2 : Int) (n3 : Int) (k : Value → World → Prop) (w : World) : pc Tryz.prog none .none f76.body (retQ Tryz.prog [.tmp 6] k) (fun _ => undef) 33 [32, 31, 30] [slv l1, .int .i64 n2, .int .i64 n3] [] w = f76.b l1 n2 n3 k w := by kernel_rfl
theorem f76.okc {k : Value → World → Prop} : okC Tryz.prog none .none f76.body (retQ Tryz.prog [.tmp 6] k) :=
  Eq.mpr (by kernel_rfl : okC Tryz.prog none .none f76.body (retQ Tryz.prog [.tmp 6] k) = (True)) (trivial)
theorem f76.call {l1 : Sl} {n2 : Int} {n3 : Int} {k : Value → World → Prop} {w : World} (h : f76.b l1 n2 n3 k w) : CALL Tryz.prog 76 #[slv l1, .int .i64 n2, .int .i64 n3] k w :=
  calls_of_pc Tryz.mixed Tryz.func76 (by kernel_rfl : Tryz.f76.body = some f76.body) (Tryz.call76 _ _) (by kernel_rfl : #[slv l1, .int .i64 n2, .int .i64 n3] ++ Array.replicate (Tryz.f76.ntmps - (#[slv l1, .int .i64 n2, .int .i64 n3] : Array Value).size) undef = (FR (fun _ => undef) 33 [32, 31, 30] [slv l1, .int .i64 n2, .int .i64 n3]).toArray) (by kernel_rfl : Tryz.f76.results.toList = [.tmp 6]) f76.okc ((f76.den l1 n2 n3 k w).symm ▸ h)

/-! (*rollcall/room.Room).Members$1 -/
noncomputable def f77.body : Code := (Tryz.f77.body).getD .skip
def f77.b (v1 : Value) (k : Value → World → Prop) (w : World) : Prop :=
  k (.tuple #[]) w
theorem f77.den (v1 : Value) (k : Value → World → Prop) (w : World) : pc Tryz.prog none .none f77.body (retQ Tryz.prog [] k) (fun _ => undef) 2 [1] [v1] [] w = f77.b v1 k w := by kernel_rfl
theorem f77.okc {k : Value → World → Prop} : okC Tryz.prog none .none f77.body (retQ Tryz.prog [] k) :=
  Eq.mpr (by kernel_rfl : okC Tryz.prog none .none f77.body (retQ Tryz.prog [] k) = (True)) (trivial)
theorem f77.call {v1 : Value} {k : Value → World → Prop} {w : World} (h : f77.b v1 k w) : CALL Tryz.prog 77 #[v1] k w :=
  calls_of_pc Tryz.mixed Tryz.func77 (by kernel_rfl : Tryz.f77.body = some f77.body) (Tryz.call77 _ _) (by kernel_rfl : #[v1] ++ Array.replicate (Tryz.f77.ntmps - (#[v1] : Array Value).size) undef = (FR (fun _ => undef) 2 [1] [v1]).toArray) (by kernel_rfl : Tryz.f77.results.toList = []) f77.okc ((f77.den v1 k w).symm ▸ h)

/-! slices.Values[[]rollcall/api.Member,rollcall/api.Member] -/
noncomputable def f78.body : Code := (Tryz.f78.body).getD .skip
def f78.b (l1 : Sl) (k : Value → World → Prop) (w : World) : Prop :=
  AL (.cells #[slv l1] 47) (fun q2 w => k (.func (.func 107) #[] #[.pointer (some ⟨q2, 0, none⟩)]) w) w
theorem f78.den (l1 : Sl) (k : Value → World → Prop) (w : World) : pc Tryz.prog none .none f78.body (retQ Tryz.prog [.tmp 2] k) (fun _ => undef) 4 [3] [slv l1] [] w = f78.b l1 k w := by kernel_rfl
theorem f78.okc {k : Value → World → Prop} : okC Tryz.prog none .none f78.body (retQ Tryz.prog [.tmp 2] k) :=
  Eq.mpr (by kernel_rfl : okC Tryz.prog none .none f78.body (retQ Tryz.prog [.tmp 2] k) = (True)) (trivial)
theorem f78.call {l1 : Sl} {k : Value → World → Prop} {w : World} (h : f78.b l1 k w) : CALL Tryz.prog 78 #[slv l1] k w :=
  calls_of_pc Tryz.mixed Tryz.func78 (by kernel_rfl : Tryz.f78.body = some f78.body) (Tryz.call78 _ _) (by kernel_rfl : #[slv l1] ++ Array.replicate (Tryz.f78.ntmps - (#[slv l1] : Array Value).size) undef = (FR (fun _ => undef) 4 [3] [slv l1]).toArray) (by kernel_rfl : Tryz.f78.results.toList = [.tmp 2]) f78.okc ((f78.den l1 k w).symm ▸ h)

/-! slices.Clone[[]rollcall/api.Member,rollcall/api.Member] -/
noncomputable def f79.body : Code := (Tryz.f79.body).getD .skip
def f79.b (l1 : Sl) (k : Value → World → Prop) (w : World) : Prop :=
  brK l1.1.isNone (k (slv (none, 0, 0)) w) (AL (.cells #[] 39) (fun q2 w => APP 39 3 16 #[.int .i64 0, .bool false, .bool false] ((some ⟨q2, 0, none⟩), 0, 0) l1.2.1 (fun w => cellsOfS w l1 (l1.2.1 * 3)) (fun l3 w => k (slv l3) w) w) w)
theorem f79.den (l1 : Sl) (k : Value → World → Prop) (w : World) : pc Tryz.prog none .none f79.body (retQ Tryz.prog [.tmp 2] k) (fun _ => undef) 8 [7] [slv l1] [] w = f79.b l1 k w := by kernel_rfl
theorem f79.okc {k : Value → World → Prop} : okC Tryz.prog none .none f79.body (retQ Tryz.prog [.tmp 2] k) :=
  Eq.mpr (by kernel_rfl : okC Tryz.prog none .none f79.body (retQ Tryz.prog [.tmp 2] k) = (True)) (trivial)
theorem f79.call {l1 : Sl} {k : Value → World → Prop} {w : World} (h : f79.b l1 k w) : CALL Tryz.prog 79 #[slv l1] k w :=
  calls_of_pc Tryz.mixed Tryz.func79 (by kernel_rfl : Tryz.f79.body = some f79.body) (Tryz.call79 _ _) (by kernel_rfl : #[slv l1] ++ Array.replicate (Tryz.f79.ntmps - (#[slv l1] : Array Value).size) undef = (FR (fun _ => undef) 8 [7] [slv l1]).toArray) (by kernel_rfl : Tryz.f79.results.toList = [.tmp 2]) f79.okc ((f79.den l1 k w).symm ▸ h)

/-! rollcall/rollcallref10.Has -/
noncomputable def f80.body : Code := (Tryz.f80.body).getD .skip
def f80.J1 (k : Value → World → Prop) (w : World) : Prop :=
  k (.bool false) w
def f80.J1p (k : Value → World → Prop) : Act → World → Prop := PJ 18 [] fun us ds w => nl us (dn ds (f80.J1 k w))
def f80.Q1 (k : Value → World → Prop) : Exit → Act → World → Prop := (Exit.inBlock 0 (Exit.then (f80.J1p k) (retQ Tryz.prog [.tmp 4] k)))
def f80.L2k (Kn1 : Sl → Int → Int → World → Prop) : Act → World → Prop := PJ 18 [17, 16, 12] fun us ds w => un us fun v us => asS v fun l3 => un us fun v us => asI .i64 v fun n4 => un us fun v us => asI .i64 v fun n5 => nl us (dn ds (Kn1 l3 n4 n5 w))
def f80.Q2 (k : Value → World → Prop) : Exit → Act → World → Prop := (retQ Tryz.prog [.tmp 4] k)
def f80.L2 (l3 : Sl) (n4 : Int) (n5 : Int) (Kn1 : Sl → Int → Int → World → Prop) (k : Value → World → Prop) (w : World) : Prop :=
  brK (decide (n5 < ((l3.2.1 : Nat) : Int))) (IX l3 n5 1 (fun a6 => LD (Value.int .i64) a6 (fun n7 w => brK (n7 == n4) (k (.bool true) w) (Kn1 l3 n4 (IntKind.wrap .i64 (n5 + 1)) w)) w)) (f80.J1 k w)
def f80.L2lp (l3 : Sl) (n4 : Int) (n5 : Int) (k : Value → World → Prop) (w : World) : Prop := ∀ D : Nat → Value, (Code.loop (codeAt f80.body [1, 0, 1, 0, 0])).wpIn (Wd none) 0 Tryz.prog (f80.Q1 k) (fr D 18 [17, 16, 12] [slv l3, .int .i64 n4, .int .i64 n5] []) w
def f80.L2p (k : Value → World → Prop) : Act → World → Prop := PJ 18 [17, 16, 12] fun us ds w => un us fun v us => asS v fun l3 => un us fun v us => asI .i64 v fun n4 => un us fun v us => asI .i64 v fun n5 => nl us (dn ds (f80.L2lp l3 n4 n5 k w))
def f80.L2K (l3 : Sl) (n4 : Int) (I : Int → World → Prop) (μ : Int → World → Nat) (m : Nat) (l3' : Sl) (n4' : Int) (n5' : Int) (w : World) : Prop := (l3' = l3 ∧ n4' = n4) ∧ I n5' w ∧ μ n5' w < m
theorem f80.J1_den (D : Nat → Value) (k : Value → World → Prop) (w : World) : pc Tryz.prog none .none (codeAt f80.body [1, 1]) (f80.Q2 k) D 18 [] [] [] w = f80.J1 k w := by kernel_rfl
theorem f80.J1_okc {k : Value → World → Prop} : okC Tryz.prog none .none (codeAt f80.body [1, 1]) (f80.Q2 k) :=
  Eq.mpr (by kernel_rfl : okC Tryz.prog none .none (codeAt f80.body [1, 1]) (f80.Q2 k) = (True)) (trivial)
theorem f80.J1_ok {k : Value → World → Prop} : OKJ Tryz.prog none (f80.J1p k) (codeAt f80.body [1, 1]) (f80.Q2 k) := by
  intro a w h
  obtain ⟨D, us, ds, rfl, h0⟩ := PJ_out h
  obtain ⟨rfl, h1⟩ := nl_out h0
  obtain ⟨rfl, h2⟩ := dn_out h1
  rw [← f80.J1_den D k w] at h2
  exact pc_wp Tryz.mixed f80.J1_okc h2
theorem f80.L2_next {l3 : Sl} {n4 : Int} {I : Int → World → Prop} {μ : Int → World → Nat} {m : Nat} {n5 : Int} {w : World} (hI : I n5 w) (hlt : μ n5 w < m) : f80.L2K l3 n4 I μ m l3 n4 n5 w := ⟨⟨rfl, rfl⟩, hI, hlt⟩
theorem f80.L2_den (D : Nat → Value) (l3 : Sl) (n4 : Int) (n5 : Int) (Kn1 : Sl → Int → Int → World → Prop) (k : Value → World → Prop) (w : World) : pc Tryz.prog none .none (codeAt f80.body [1, 0, 1, 0, 0]) (Exit.then (f80.L2k Kn1) (f80.Q1 k)) D 18 [17, 16, 12] [slv l3, .int .i64 n4, .int .i64 n5] [] w = f80.L2 l3 n4 n5 Kn1 k w := by kernel_rfl
theorem f80.L2_okc {Kn1 : Sl → Int → Int → World → Prop} {k : Value → World → Prop} : okC Tryz.prog none .none (codeAt f80.body [1, 0, 1, 0, 0]) (Exit.then (f80.L2k Kn1) (f80.Q1 k)) :=
  Eq.mpr (by kernel_rfl : okC Tryz.prog none .none (codeAt f80.body [1, 0, 1, 0, 0]) (Exit.then (f80.L2k Kn1) (f80.Q1 k)) = (True)) (trivial)
theorem f80.L2_ok {k : Value → World → Prop} : OKJ Tryz.prog none (f80.L2p k) (codeAt f80.body [1, 0, 1, 0]) (f80.Q1 k) := by
  intro a w h
  obtain ⟨D, us, ds, rfl, h0⟩ := PJ_out h
  obtain ⟨v, us, rfl, h1⟩ := un_out h0
  obtain ⟨l3, rfl, h2⟩ := asS_out h1
  obtain ⟨v, us, rfl, h3⟩ := un_out h2
  obtain ⟨n4, rfl, h4⟩ := asI_out h3
  obtain ⟨v, us, rfl, h5⟩ := un_out h4
  obtain ⟨n5, rfl, h6⟩ := asI_out h5
  obtain ⟨rfl, h7⟩ := nl_out h6
  obtain ⟨rfl, h8⟩ := dn_out h7
  rw [show (codeAt f80.body [1, 0, 1, 0]) = Code.loop (codeAt f80.body [1, 0, 1, 0, 0]) by kernel_rfl]
  exact h8 D
theorem f80.L2_rule {l3 : Sl} {n4 : Int} {k : Value → World → Prop} (I : Int → World → Prop) (μ : Int → World → Nat) {n5 : Int} {w : World} (h0 : I n5 w)
    (hr : ∀ (n5 : Int) (w : World), I n5 w → f80.L2 l3 n4 n5 (f80.L2K l3 n4 I μ (μ n5 w)) k w) : f80.L2lp l3 n4 n5 k w := by
  intro D0
  refine loop_ind (P := Tryz.prog) (fun m a w => ∃ n5 : Int, ∃ D : Nat → Value, a = fr D 18 [17, 16, 12] [slv l3, .int .i64 n4, .int .i64 n5] [] ∧ I n5 w ∧ μ n5 w = m) ?_ (μ n5 w) ⟨_, D0, rfl, h0, rfl⟩
  rintro m a w ⟨n5, D, rfl, hI, rfl⟩
  have h := hr n5 w hI
  rw [← f80.L2_den D l3 n4 n5 (f80.L2K l3 n4 I μ (μ n5 w)) k w] at h
  refine then_mono (pc_wp Tryz.mixed f80.L2_okc h) ?_
  clear h
  intro a w h
  obtain ⟨D, us, ds, rfl, h0⟩ := PJ_out h
  obtain ⟨v, us, rfl, h1⟩ := un_out h0
  obtain ⟨l3', rfl, h2⟩ := asS_out h1
  obtain ⟨v, us, rfl, h3⟩ := un_out h2
  obtain ⟨n4', rfl, h4⟩ := asI_out h3
  obtain ⟨v, us, rfl, h5⟩ := un_out h4
  obtain ⟨n5', rfl, h6⟩ := asI_out h5
  obtain ⟨rfl, h7⟩ := nl_out h6
  obtain ⟨rfl, h8⟩ := dn_out h7
  obtain ⟨⟨rfl, rfl⟩, hI, hlt⟩ := h8
  exact ⟨_, hlt, _, D, rfl, hI, rfl⟩
def f80.b (l1 : Sl) (n2 : Int) (k : Value → World → Prop) (w : World) : Prop :=
  f80.L2lp l1 n2 0 k w
theorem f80.den (l1 : Sl) (n2 : Int) (k : Value → World → Prop) (w : World) : pc Tryz.prog none (.seq none .none (.seq (some (f80.J1p k)) (.seq none .none (.block (.at (f80.L2p k)))) .none)) f80.body (retQ Tryz.prog [.tmp 4] k) (fun _ => undef) 18 [17, 16] [slv l1, .int .i64 n2] [] w = f80.b l1 n2 k w := by kernel_rfl
theorem f80.okc {k : Value → World → Prop} : okC Tryz.prog none (.seq none .none (.seq (some (f80.J1p k)) (.seq none .none (.block (.at (f80.L2p k)))) .none)) f80.body (retQ Tryz.prog [.tmp 4] k) :=
  Eq.mpr (by kernel_rfl : okC Tryz.prog none (.seq none .none (.seq (some (f80.J1p k)) (.seq none .none (.block (.at (f80.L2p k)))) .none)) f80.body (retQ Tryz.prog [.tmp 4] k) = (((True) ∧ (((((True) ∧ (OKJ Tryz.prog none (f80.L2p k) (codeAt f80.body [1, 0, 1, 0]) (f80.Q1 k)))) ∧ OKJ Tryz.prog none (f80.J1p k) (codeAt f80.body [1, 1]) (f80.Q2 k)))))) (⟨trivial, ⟨⟨trivial, f80.L2_ok⟩, f80.J1_ok⟩⟩)
theorem f80.call {l1 : Sl} {n2 : Int} {k : Value → World → Prop} {w : World} (h : f80.b l1 n2 k w) : CALL Tryz.prog 80 #[slv l1, .int .i64 n2] k w :=
  calls_of_pc Tryz.mixed Tryz.func80 (by kernel_rfl : Tryz.f80.body = some f80.body) (Tryz.call80 _ _) (by kernel_rfl : #[slv l1, .int .i64 n2] ++ Array.replicate (Tryz.f80.ntmps - (#[slv l1, .int .i64 n2] : Array Value).size) undef = (FR (fun _ => undef) 18 [17, 16] [slv l1, .int .i64 n2]).toArray) (by kernel_rfl : Tryz.f80.results.toList = [.tmp 4]) f80.okc ((f80.den l1 n2 k w).symm ▸ h)
end Go.Proofs.YtlefdgplobifiaaGreatDoor
