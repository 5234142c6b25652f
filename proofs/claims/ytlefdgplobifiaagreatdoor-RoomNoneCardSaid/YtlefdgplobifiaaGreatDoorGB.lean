/- Printed by gen2.py: the functions' bodies over the primitives of Den, in pieces. -/
import Derived.Test.YtlefdgplobifiaaGreatDoorCut
import Derived.Test.YtlefdgplobifiaaGreatDoorKit
namespace Go.Proofs.YtlefdgplobifiaaGreatDoor
open Go
set_option maxRecDepth 100000
set_option linter.unusedVariables false
/-! (*rollcall/room.Room).locked -/
noncomputable def f42.body : Code := (Tryz.f42.body).getD .skip
def f42.b (p1 : Option Addr) (b2 : Bool) (n3 : Int) (s4 : ByteArray) (k : Value → World → Prop) (w : World) : Prop :=
  AL (.cells #[.bool b2, .int .u8 n3, .string s4] 24) (fun q5 w => AL (.cells #[.bool false, .int .u8 0, .string (⟨#[]⟩ : ByteArray)] 24) (fun q6 w => LD Value.bool (Addr.add ⟨q5, 0, none⟩ 0) (fun b7 w => brK b7 (LD Value.string (Addr.add ⟨q5, 0, none⟩ 2) (fun s8 w => CALL Tryz.prog 69 #[.string s8] (fun v9 w => ∃ b10 : Bool, v9 = .bool b10 ∧ brK (!b10) (ST (Addr.add ⟨q6, 0, none⟩ 0) (.bool false) (fun w => ST (Addr.add ⟨q6, 0, none⟩ 1) (.int .u8 0) (fun w => ST (Addr.add ⟨q6, 0, none⟩ 2) (.string (⟨#[]⟩ : ByteArray)) (fun w => LD Value.bool (Addr.add ⟨q6, 0, none⟩ 0) (fun b11 w => LD (Value.int .u8) (Addr.add ⟨q6, 0, none⟩ 1) (fun n12 w => LD Value.string (Addr.add ⟨q6, 0, none⟩ 2) (fun s13 w => k (.tuple #[.agg #[.bool b11, .int .u8 n12, .string s13], .int .i64 475]) w) w) w) w) w) w) w) (NN p1 (fun a14 => LD Value.string (Addr.add a14 5) (fun s15 w => brK (!decide ((s15 : ByteArray) = (⟨#[]⟩ : ByteArray))) (ST (Addr.add ⟨q6, 0, none⟩ 0) (.bool false) (fun w => ST (Addr.add ⟨q6, 0, none⟩ 1) (.int .u8 0) (fun w => ST (Addr.add ⟨q6, 0, none⟩ 2) (.string (⟨#[]⟩ : ByteArray)) (fun w => LD Value.bool (Addr.add ⟨q6, 0, none⟩ 0) (fun b16 w => LD (Value.int .u8) (Addr.add ⟨q6, 0, none⟩ 1) (fun n17 w => LD Value.string (Addr.add ⟨q6, 0, none⟩ 2) (fun s18 w => k (.tuple #[.agg #[.bool b16, .int .u8 n17, .string s18], .int .i64 475]) w) w) w) w) w) w) w) (LD Value.bool (Addr.add ⟨q5, 0, none⟩ 0) (fun b19 w => brK b19 (LD Value.string (Addr.add ⟨q5, 0, none⟩ 2) (fun s20 w => NN p1 (fun a21 => ST (Addr.add (Addr.add a21 5) 0) (.string s20) (fun w => LD Value.bool (Addr.add ⟨q5, 0, none⟩ 0) (fun b22 w => LD (Value.int .u8) (Addr.add ⟨q5, 0, none⟩ 1) (fun n23 w => LD Value.string (Addr.add ⟨q5, 0, none⟩ 2) (fun s24 w => ST (Addr.add ⟨q6, 0, none⟩ 0) (.bool b22) (fun w => ST (Addr.add ⟨q6, 0, none⟩ 1) (.int .u8 n23) (fun w => ST (Addr.add ⟨q6, 0, none⟩ 2) (.string s24) (fun w => LD Value.bool (Addr.add ⟨q6, 0, none⟩ 0) (fun b25 w => LD (Value.int .u8) (Addr.add ⟨q6, 0, none⟩ 1) (fun n26 w => LD Value.string (Addr.add ⟨q6, 0, none⟩ 2) (fun s27 w => k (.tuple #[.agg #[.bool b25, .int .u8 n26, .string s27], .int .i64 0]) w) w) w) w) w) w) w) w) w) w) w)) w) (NN p1 (fun a28 => LD Value.string (Addr.add a28 5) (fun s29 w => brK (decide ((s29 : ByteArray) = (⟨#[]⟩ : ByteArray))) (ST (Addr.add ⟨q6, 0, none⟩ 0) (.bool false) (fun w => ST (Addr.add ⟨q6, 0, none⟩ 1) (.int .u8 0) (fun w => ST (Addr.add ⟨q6, 0, none⟩ 2) (.string (⟨#[]⟩ : ByteArray)) (fun w => LD Value.bool (Addr.add ⟨q6, 0, none⟩ 0) (fun b30 w => LD (Value.int .u8) (Addr.add ⟨q6, 0, none⟩ 1) (fun n31 w => LD Value.string (Addr.add ⟨q6, 0, none⟩ 2) (fun s32 w => k (.tuple #[.agg #[.bool b30, .int .u8 n31, .string s32], .int .i64 0]) w) w) w) w) w) w) w) (NN p1 (fun a33 => ST (Addr.add (Addr.add a33 5) 0) (.string (⟨#[]⟩ : ByteArray)) (fun w => ST (Addr.add (Addr.add ⟨q5, 0, none⟩ 2) 0) (.string (⟨#[42]⟩ : ByteArray)) (fun w => LD Value.bool (Addr.add ⟨q5, 0, none⟩ 0) (fun b34 w => LD (Value.int .u8) (Addr.add ⟨q5, 0, none⟩ 1) (fun n35 w => LD Value.string (Addr.add ⟨q5, 0, none⟩ 2) (fun s36 w => ST (Addr.add ⟨q6, 0, none⟩ 0) (.bool b34) (fun w => ST (Addr.add ⟨q6, 0, none⟩ 1) (.int .u8 n35) (fun w => ST (Addr.add ⟨q6, 0, none⟩ 2) (.string s36) (fun w => LD Value.bool (Addr.add ⟨q6, 0, none⟩ 0) (fun b37 w => LD (Value.int .u8) (Addr.add ⟨q6, 0, none⟩ 1) (fun n38 w => LD Value.string (Addr.add ⟨q6, 0, none⟩ 2) (fun s39 w => k (.tuple #[.agg #[.bool b37, .int .u8 n38, .string s39], .int .i64 0]) w) w) w) w) w) w) w) w) w) w) w) w))) w))) w)) w))) w) w) (LD Value.bool (Addr.add ⟨q5, 0, none⟩ 0) (fun b40 w => brK b40 (LD Value.string (Addr.add ⟨q5, 0, none⟩ 2) (fun s41 w => NN p1 (fun a42 => ST (Addr.add (Addr.add a42 5) 0) (.string s41) (fun w => LD Value.bool (Addr.add ⟨q5, 0, none⟩ 0) (fun b43 w => LD (Value.int .u8) (Addr.add ⟨q5, 0, none⟩ 1) (fun n44 w => LD Value.string (Addr.add ⟨q5, 0, none⟩ 2) (fun s45 w => ST (Addr.add ⟨q6, 0, none⟩ 0) (.bool b43) (fun w => ST (Addr.add ⟨q6, 0, none⟩ 1) (.int .u8 n44) (fun w => ST (Addr.add ⟨q6, 0, none⟩ 2) (.string s45) (fun w => LD Value.bool (Addr.add ⟨q6, 0, none⟩ 0) (fun b46 w => LD (Value.int .u8) (Addr.add ⟨q6, 0, none⟩ 1) (fun n47 w => LD Value.string (Addr.add ⟨q6, 0, none⟩ 2) (fun s48 w => k (.tuple #[.agg #[.bool b46, .int .u8 n47, .string s48], .int .i64 0]) w) w) w) w) w) w) w) w) w) w) w)) w) (NN p1 (fun a49 => LD Value.string (Addr.add a49 5) (fun s50 w => brK (decide ((s50 : ByteArray) = (⟨#[]⟩ : ByteArray))) (ST (Addr.add ⟨q6, 0, none⟩ 0) (.bool false) (fun w => ST (Addr.add ⟨q6, 0, none⟩ 1) (.int .u8 0) (fun w => ST (Addr.add ⟨q6, 0, none⟩ 2) (.string (⟨#[]⟩ : ByteArray)) (fun w => LD Value.bool (Addr.add ⟨q6, 0, none⟩ 0) (fun b51 w => LD (Value.int .u8) (Addr.add ⟨q6, 0, none⟩ 1) (fun n52 w => LD Value.string (Addr.add ⟨q6, 0, none⟩ 2) (fun s53 w => k (.tuple #[.agg #[.bool b51, .int .u8 n52, .string s53], .int .i64 0]) w) w) w) w) w) w) w) (NN p1 (fun a54 => ST (Addr.add (Addr.add a54 5) 0) (.string (⟨#[]⟩ : ByteArray)) (fun w => ST (Addr.add (Addr.add ⟨q5, 0, none⟩ 2) 0) (.string (⟨#[42]⟩ : ByteArray)) (fun w => LD Value.bool (Addr.add ⟨q5, 0, none⟩ 0) (fun b55 w => LD (Value.int .u8) (Addr.add ⟨q5, 0, none⟩ 1) (fun n56 w => LD Value.string (Addr.add ⟨q5, 0, none⟩ 2) (fun s57 w => ST (Addr.add ⟨q6, 0, none⟩ 0) (.bool b55) (fun w => ST (Addr.add ⟨q6, 0, none⟩ 1) (.int .u8 n56) (fun w => ST (Addr.add ⟨q6, 0, none⟩ 2) (.string s57) (fun w => LD Value.bool (Addr.add ⟨q6, 0, none⟩ 0) (fun b58 w => LD (Value.int .u8) (Addr.add ⟨q6, 0, none⟩ 1) (fun n59 w => LD Value.string (Addr.add ⟨q6, 0, none⟩ 2) (fun s60 w => k (.tuple #[.agg #[.bool b58, .int .u8 n59, .string s60], .int .i64 0]) w) w) w) w) w) w) w) w) w) w) w) w))) w))) w)) w) w) w
theorem f42.den (p1 : Option Addr) (b2 : Bool) (n3 : Int) (s4 : ByteArray) (k : Value → World → Prop) (w : World) : pc Tryz.prog none .none f42.body (retQ Tryz.prog [.cell 4 24, .tmp 5] k) (fun _ => undef) 44 [43, 42] [.pointer p1, .agg #[.bool b2, .int .u8 n3, .string s4]] [] w = f42.b p1 b2 n3 s4 k w := by kernel_rfl
theorem f42.okc {k : Value → World → Prop} : okC Tryz.prog none .none f42.body (retQ Tryz.prog [.cell 4 24, .tmp 5] k) :=
  Eq.mpr (by kernel_rfl : okC Tryz.prog none .none f42.body (retQ Tryz.prog [.cell 4 24, .tmp 5] k) = (True)) (trivial)
theorem f42.call {p1 : Option Addr} {b2 : Bool} {n3 : Int} {s4 : ByteArray} {k : Value → World → Prop} {w : World} (h : f42.b p1 b2 n3 s4 k w) : CALL Tryz.prog 42 #[.pointer p1, .agg #[.bool b2, .int .u8 n3, .string s4]] k w :=
  calls_of_pc Tryz.mixed Tryz.func42 (by kernel_rfl : Tryz.f42.body = some f42.body) (Tryz.call42 _ _) (by kernel_rfl : #[.pointer p1, .agg #[.bool b2, .int .u8 n3, .string s4]] ++ Array.replicate (Tryz.f42.ntmps - (#[.pointer p1, .agg #[.bool b2, .int .u8 n3, .string s4]] : Array Value).size) undef = (FR (fun _ => undef) 44 [43, 42] [.pointer p1, .agg #[.bool b2, .int .u8 n3, .string s4]]).toArray) (by kernel_rfl : Tryz.f42.results.toList = [.cell 4 24, .tmp 5]) f42.okc ((f42.den p1 b2 n3 s4 k w).symm ▸ h)

/-! (*rollcall/room.Room).limited -/
noncomputable def f43.body : Code := (Tryz.f43.body).getD .skip
def f43.Q1 (k : Value → World → Prop) : Exit → Act → World → Prop := (retQ Tryz.prog [.cell 4 24] k)
def f43.J1 (p11 : Option Addr) (q12 : Nat) (q13 : Nat) (n14 : Int) (k : Value → World → Prop) (w : World) : Prop :=
  LD Value.bool (Addr.add ⟨q12, 0, none⟩ 0) (fun b15 w => brK b15 (brK (n14 == 0) (ST (Addr.add ⟨q13, 0, none⟩ 0) (.bool false) (fun w => ST (Addr.add ⟨q13, 0, none⟩ 1) (.int .u8 0) (fun w => ST (Addr.add ⟨q13, 0, none⟩ 2) (.string (⟨#[]⟩ : ByteArray)) (fun w => LD Value.bool (Addr.add ⟨q13, 0, none⟩ 0) (fun b16 w => LD (Value.int .u8) (Addr.add ⟨q13, 0, none⟩ 1) (fun n17 w => LD Value.string (Addr.add ⟨q13, 0, none⟩ 2) (fun s18 w => k (.agg #[.bool b16, .int .u8 n17, .string s18]) w) w) w) w) w) w) w) (NN p11 (fun a19 => LD (Value.int .i64) (Addr.add a19 6) (fun n20 w => brK (n14 == n20) (ST (Addr.add ⟨q13, 0, none⟩ 0) (.bool false) (fun w => ST (Addr.add ⟨q13, 0, none⟩ 1) (.int .u8 0) (fun w => ST (Addr.add ⟨q13, 0, none⟩ 2) (.string (⟨#[]⟩ : ByteArray)) (fun w => LD Value.bool (Addr.add ⟨q13, 0, none⟩ 0) (fun b21 w => LD (Value.int .u8) (Addr.add ⟨q13, 0, none⟩ 1) (fun n22 w => LD Value.string (Addr.add ⟨q13, 0, none⟩ 2) (fun s23 w => k (.agg #[.bool b21, .int .u8 n22, .string s23]) w) w) w) w) w) w) w) (NN p11 (fun a24 => ST (Addr.add (Addr.add a24 6) 0) (.int .i64 n14) (fun w => LD Value.bool (Addr.add ⟨q12, 0, none⟩ 0) (fun b25 w => LD (Value.int .u8) (Addr.add ⟨q12, 0, none⟩ 1) (fun n26 w => LD Value.string (Addr.add ⟨q12, 0, none⟩ 2) (fun s27 w => ST (Addr.add ⟨q13, 0, none⟩ 0) (.bool b25) (fun w => ST (Addr.add ⟨q13, 0, none⟩ 1) (.int .u8 n26) (fun w => ST (Addr.add ⟨q13, 0, none⟩ 2) (.string s27) (fun w => LD Value.bool (Addr.add ⟨q13, 0, none⟩ 0) (fun b28 w => LD (Value.int .u8) (Addr.add ⟨q13, 0, none⟩ 1) (fun n29 w => LD Value.string (Addr.add ⟨q13, 0, none⟩ 2) (fun s30 w => k (.agg #[.bool b28, .int .u8 n29, .string s30]) w) w) w) w) w) w) w) w) w) w) w))) w))) (NN p11 (fun a31 => LD (Value.int .i64) (Addr.add a31 6) (fun n32 w => brK (n14 == n32) (ST (Addr.add ⟨q13, 0, none⟩ 0) (.bool false) (fun w => ST (Addr.add ⟨q13, 0, none⟩ 1) (.int .u8 0) (fun w => ST (Addr.add ⟨q13, 0, none⟩ 2) (.string (⟨#[]⟩ : ByteArray)) (fun w => LD Value.bool (Addr.add ⟨q13, 0, none⟩ 0) (fun b33 w => LD (Value.int .u8) (Addr.add ⟨q13, 0, none⟩ 1) (fun n34 w => LD Value.string (Addr.add ⟨q13, 0, none⟩ 2) (fun s35 w => k (.agg #[.bool b33, .int .u8 n34, .string s35]) w) w) w) w) w) w) w) (NN p11 (fun a36 => ST (Addr.add (Addr.add a36 6) 0) (.int .i64 n14) (fun w => LD Value.bool (Addr.add ⟨q12, 0, none⟩ 0) (fun b37 w => LD (Value.int .u8) (Addr.add ⟨q12, 0, none⟩ 1) (fun n38 w => LD Value.string (Addr.add ⟨q12, 0, none⟩ 2) (fun s39 w => ST (Addr.add ⟨q13, 0, none⟩ 0) (.bool b37) (fun w => ST (Addr.add ⟨q13, 0, none⟩ 1) (.int .u8 n38) (fun w => ST (Addr.add ⟨q13, 0, none⟩ 2) (.string s39) (fun w => LD Value.bool (Addr.add ⟨q13, 0, none⟩ 0) (fun b40 w => LD (Value.int .u8) (Addr.add ⟨q13, 0, none⟩ 1) (fun n41 w => LD Value.string (Addr.add ⟨q13, 0, none⟩ 2) (fun s42 w => k (.agg #[.bool b40, .int .u8 n41, .string s42]) w) w) w) w) w) w) w) w) w) w) w))) w))) w
def f43.J1p (k : Value → World → Prop) : Act → World → Prop := PJ 33 [32, 29, 28, 27] fun us ds w => un us fun v us => asP v fun p11 => un us fun v us => asBox v fun q12 => un us fun v us => asBox v fun q13 => un us fun v us => asI .i64 v fun n14 => nl us (dn ds (f43.J1 p11 q12 q13 n14 k w))
theorem f43.J1_den (D : Nat → Value) (p11 : Option Addr) (q12 : Nat) (q13 : Nat) (n14 : Int) (k : Value → World → Prop) (w : World) : pc Tryz.prog none .none (codeAt f43.body [1, 1, 1]) (f43.Q1 k) D 33 [32, 29, 28, 27] [.pointer p11, .pointer (some ⟨q12, 0, none⟩), .pointer (some ⟨q13, 0, none⟩), .int .i64 n14] [] w = f43.J1 p11 q12 q13 n14 k w := by kernel_rfl
theorem f43.J1_okc {k : Value → World → Prop} : okC Tryz.prog none .none (codeAt f43.body [1, 1, 1]) (f43.Q1 k) :=
  Eq.mpr (by kernel_rfl : okC Tryz.prog none .none (codeAt f43.body [1, 1, 1]) (f43.Q1 k) = (True)) (trivial)
theorem f43.J1_ok {k : Value → World → Prop} : OKJ Tryz.prog none (f43.J1p k) (codeAt f43.body [1, 1, 1]) (f43.Q1 k) := by
  intro a w h
  obtain ⟨D, us, ds, rfl, h0⟩ := PJ_out h
  obtain ⟨v, us, rfl, h1⟩ := un_out h0
  obtain ⟨p11, rfl, h2⟩ := asP_out h1
  obtain ⟨v, us, rfl, h3⟩ := un_out h2
  obtain ⟨q12, rfl, h4⟩ := asBox_out h3
  obtain ⟨v, us, rfl, h5⟩ := un_out h4
  obtain ⟨q13, rfl, h6⟩ := asBox_out h5
  obtain ⟨v, us, rfl, h7⟩ := un_out h6
  obtain ⟨n14, rfl, h8⟩ := asI_out h7
  obtain ⟨rfl, h9⟩ := nl_out h8
  obtain ⟨rfl, h10⟩ := dn_out h9
  rw [← f43.J1_den D p11 q12 q13 n14 k w] at h10
  exact pc_wp Tryz.mixed f43.J1_okc h10
def f43.b (p1 : Option Addr) (b2 : Bool) (n3 : Int) (s4 : ByteArray) (k : Value → World → Prop) (w : World) : Prop :=
  AL (.cells #[.bool b2, .int .u8 n3, .string s4] 24) (fun q5 w => AL (.cells #[.bool false, .int .u8 0, .string (⟨#[]⟩ : ByteArray)] 24) (fun q6 w => LD Value.string (Addr.add ⟨q5, 0, none⟩ 2) (fun s7 w => CALL Tryz.prog 70 #[.string s7] (fun v8 w => ∃ n9 : Int, v8 = .int .i64 n9 ∧ LD Value.bool (Addr.add ⟨q5, 0, none⟩ 0) (fun b10 w => brK (!b10) (ST (Addr.add (Addr.add ⟨q5, 0, none⟩ 2) 0) (.string (⟨#[]⟩ : ByteArray)) (fun w => f43.J1 p1 q5 q6 0 k w) w) (f43.J1 p1 q5 q6 n9 k w)) w) w) w) w) w
theorem f43.den (p1 : Option Addr) (b2 : Bool) (n3 : Int) (s4 : ByteArray) (k : Value → World → Prop) (w : World) : pc Tryz.prog none (.seq none .none (.seq none .none (.seq (some (f43.J1p k)) .none .none))) f43.body (retQ Tryz.prog [.cell 4 24] k) (fun _ => undef) 33 [32, 31] [.pointer p1, .agg #[.bool b2, .int .u8 n3, .string s4]] [] w = f43.b p1 b2 n3 s4 k w := by kernel_rfl
theorem f43.okc {k : Value → World → Prop} : okC Tryz.prog none (.seq none .none (.seq none .none (.seq (some (f43.J1p k)) .none .none))) f43.body (retQ Tryz.prog [.cell 4 24] k) :=
  Eq.mpr (by kernel_rfl : okC Tryz.prog none (.seq none .none (.seq none .none (.seq (some (f43.J1p k)) .none .none))) f43.body (retQ Tryz.prog [.cell 4 24] k) = (((True) ∧ (((True) ∧ (((True) ∧ OKJ Tryz.prog none (f43.J1p k) (codeAt f43.body [1, 1, 1]) (f43.Q1 k)))))))) (⟨trivial, ⟨trivial, ⟨trivial, f43.J1_ok⟩⟩⟩)
theorem f43.call {p1 : Option Addr} {b2 : Bool} {n3 : Int} {s4 : ByteArray} {k : Value → World → Prop} {w : World} (h : f43.b p1 b2 n3 s4 k w) : CALL Tryz.prog 43 #[.pointer p1, .agg #[.bool b2, .int .u8 n3, .string s4]] k w :=
  calls_of_pc Tryz.mixed Tryz.func43 (by kernel_rfl : Tryz.f43.body = some f43.body) (Tryz.call43 _ _) (by kernel_rfl : #[.pointer p1, .agg #[.bool b2, .int .u8 n3, .string s4]] ++ Array.replicate (Tryz.f43.ntmps - (#[.pointer p1, .agg #[.bool b2, .int .u8 n3, .string s4]] : Array Value).size) undef = (FR (fun _ => undef) 33 [32, 31] [.pointer p1, .agg #[.bool b2, .int .u8 n3, .string s4]]).toArray) (by kernel_rfl : Tryz.f43.results.toList = [.cell 4 24]) f43.okc ((f43.den p1 b2 n3 s4 k w).symm ▸ h)

/-! (*rollcall/room.Room).Members -/
noncomputable def f45.body : Code := (Tryz.f45.body).getD .skip
def f45.b (p1 : Option Addr) (k : Value → World → Prop) (w : World) : Prop :=
  brK p1.isNone (k (.func (.func 77) #[] #[]) w) (NN p1 (fun a2 => LD slv (Addr.add a2 2) (fun l3 w => CALL Tryz.prog 79 #[slv l3] (fun v4 w => ∃ l5 : Sl, v4 = slv l5 ∧ CALL Tryz.prog 78 #[slv l5] (fun v6 w => ∃ v7 : Value, v6 = v7 ∧ k (v7) w) w) w) w))
theorem f45.den (p1 : Option Addr) (k : Value → World → Prop) (w : World) : pc Tryz.prog none .none f45.body (retQ Tryz.prog [.tmp 2] k) (fun _ => undef) 11 [10] [.pointer p1] [] w = f45.b p1 k w := by kernel_rfl
theorem f45.okc {k : Value → World → Prop} : okC Tryz.prog none .none f45.body (retQ Tryz.prog [.tmp 2] k) :=
  Eq.mpr (by kernel_rfl : okC Tryz.prog none .none f45.body (retQ Tryz.prog [.tmp 2] k) = (True)) (trivial)
theorem f45.call {p1 : Option Addr} {k : Value → World → Prop} {w : World} (h : f45.b p1 k w) : CALL Tryz.prog 45 #[.pointer p1] k w :=
  calls_of_pc Tryz.mixed Tryz.func45 (by kernel_rfl : Tryz.f45.body = some f45.body) (Tryz.call45 _ _) (by kernel_rfl : #[.pointer p1] ++ Array.replicate (Tryz.f45.ntmps - (#[.pointer p1] : Array Value).size) undef = (FR (fun _ => undef) 11 [10] [.pointer p1]).toArray) (by kernel_rfl : Tryz.f45.results.toList = [.tmp 2]) f45.okc ((f45.den p1 k w).symm ▸ h)

/-! (*rollcall/room.Room).Len -/
noncomputable def f46.body : Code := (Tryz.f46.body).getD .skip
def f46.b (p1 : Option Addr) (k : Value → World → Prop) (w : World) : Prop :=
  brK p1.isNone (k (.int .i64 0) w) (NN p1 (fun a2 => LD slv (Addr.add a2 2) (fun l3 w => k (.int .i64 ((l3.2.1 : Nat) : Int)) w) w))
theorem f46.den (p1 : Option Addr) (k : Value → World → Prop) (w : World) : pc Tryz.prog none .none f46.body (retQ Tryz.prog [.tmp 2] k) (fun _ => undef) 10 [9] [.pointer p1] [] w = f46.b p1 k w := by kernel_rfl
theorem f46.okc {k : Value → World → Prop} : okC Tryz.prog none .none f46.body (retQ Tryz.prog [.tmp 2] k) :=
  Eq.mpr (by kernel_rfl : okC Tryz.prog none .none f46.body (retQ Tryz.prog [.tmp 2] k) = (True)) (trivial)
theorem f46.call {p1 : Option Addr} {k : Value → World → Prop} {w : World} (h : f46.b p1 k w) : CALL Tryz.prog 46 #[.pointer p1] k w :=
  calls_of_pc Tryz.mixed Tryz.func46 (by kernel_rfl : Tryz.f46.body = some f46.body) (Tryz.call46 _ _) (by kernel_rfl : #[.pointer p1] ++ Array.replicate (Tryz.f46.ntmps - (#[.pointer p1] : Array Value).size) undef = (FR (fun _ => undef) 10 [9] [.pointer p1]).toArray) (by kernel_rfl : Tryz.f46.results.toList = [.tmp 2]) f46.okc ((f46.den p1 k w).symm ▸ h)

/-! rollcall/rollcallref10.Add -/
noncomputable def f47.body : Code := (Tryz.f47.body).getD .skip
def f47.J5 (l33 : Sl) (k : Value → World → Prop) (w : World) : Prop :=
  k (slv l33) w
def f47.J1 (n28 : Int) (l29 : Sl) (b30 : Bool) (k : Value → World → Prop) (w : World) : Prop :=
  brK (!b30) (AL (.cells #[.int .i64 n28] 3) (fun q31 w => APP 3 1 8 #[.int .i64 0] l29 1 (fun w => cellsOfS w ((some ⟨q31, 0, none⟩), 1, 1) (1 * 1)) (fun l32 w => f47.J5 l32 k w) w) w) (f47.J5 l29 k w)
def f47.J1p (k : Value → World → Prop) : Act → World → Prop := PJ 46 [44, 40, 39] fun us ds w => un us fun v us => asI .i64 v fun n28 => un us fun v us => asS v fun l29 => un us fun v us => asB v fun b30 => nl us (dn ds (f47.J1 n28 l29 b30 k w))
def f47.Q1 (k : Value → World → Prop) : Exit → Act → World → Prop := (Exit.inBlock 0 (Exit.then (f47.J1p k) (retQ Tryz.prog [.tmp 4] k)))
def f47.L2k (Kn1 : Sl → Int → Sl → Bool → Int → World → Prop) : Act → World → Prop := PJ 46 [45, 44, 40, 39, 38] fun us ds w => un us fun v us => asS v fun l5 => un us fun v us => asI .i64 v fun n6 => un us fun v us => asS v fun l7 => un us fun v us => asB v fun b8 => un us fun v us => asI .i64 v fun n9 => nl us (dn ds (Kn1 l5 n6 l7 b8 n9 w))
def f47.J3 (l23 : Sl) (n24 : Int) (l25 : Sl) (b26 : Bool) (n27 : Int) (Kn1 : Sl → Int → Sl → Bool → Int → World → Prop) (k : Value → World → Prop) (w : World) : Prop :=
  Kn1 l23 n24 l25 b26 (IntKind.wrap .i64 (n27 + 1)) w
def f47.J3p (Kn1 : Sl → Int → Sl → Bool → Int → World → Prop) (k : Value → World → Prop) : Act → World → Prop := PJ 46 [45, 44, 40, 39, 38] fun us ds w => un us fun v us => asS v fun l23 => un us fun v us => asI .i64 v fun n24 => un us fun v us => asS v fun l25 => un us fun v us => asB v fun b26 => un us fun v us => asI .i64 v fun n27 => nl us (dn ds (f47.J3 l23 n24 l25 b26 n27 Kn1 k w))
def f47.Q2 (Kn1 : Sl → Int → Sl → Bool → Int → World → Prop) (k : Value → World → Prop) : Exit → Act → World → Prop := (Exit.inBlock 1 (Exit.then (f47.J3p Kn1 k) (Exit.then (f47.L2k Kn1) (f47.Q1 k))))
def f47.Q3 (Kn1 : Sl → Int → Sl → Bool → Int → World → Prop) (k : Value → World → Prop) : Exit → Act → World → Prop := (Exit.then (f47.L2k Kn1) (f47.Q1 k))
def f47.J4 (l14 : Sl) (n15 : Int) (l16 : Sl) (b17 : Bool) (n18 : Int) (Kn1 : Sl → Int → Sl → Bool → Int → World → Prop) (k : Value → World → Prop) (w : World) : Prop :=
  IX l14 n18 1 (fun a19 => LD (Value.int .i64) a19 (fun n20 w => AL (.cells #[.int .i64 n20] 3) (fun q21 w => APP 3 1 8 #[.int .i64 0] l16 1 (fun w => cellsOfS w ((some ⟨q21, 0, none⟩), 1, 1) (1 * 1)) (fun l22 w => f47.J3 l14 n15 l22 b17 n18 Kn1 k w) w) w) w)
def f47.J4p (Kn1 : Sl → Int → Sl → Bool → Int → World → Prop) (k : Value → World → Prop) : Act → World → Prop := PJ 46 [45, 44, 40, 39, 38] fun us ds w => un us fun v us => asS v fun l14 => un us fun v us => asI .i64 v fun n15 => un us fun v us => asS v fun l16 => un us fun v us => asB v fun b17 => un us fun v us => asI .i64 v fun n18 => nl us (dn ds (f47.J4 l14 n15 l16 b17 n18 Kn1 k w))
def f47.Q4 (k : Value → World → Prop) : Exit → Act → World → Prop := (retQ Tryz.prog [.tmp 4] k)
def f47.J5p (k : Value → World → Prop) : Act → World → Prop := PJ 46 [40] fun us ds w => un us fun v us => asS v fun l33 => nl us (dn ds (f47.J5 l33 k w))
def f47.L2 (l5 : Sl) (n6 : Int) (l7 : Sl) (b8 : Bool) (n9 : Int) (Kn1 : Sl → Int → Sl → Bool → Int → World → Prop) (k : Value → World → Prop) (w : World) : Prop :=
  brK (decide (n9 < ((l5.2.1 : Nat) : Int))) (brK (!b8) (IX l5 n9 1 (fun a10 => LD (Value.int .i64) a10 (fun n11 w => brK (decide (n6 < n11)) (AL (.cells #[.int .i64 n6] 3) (fun q12 w => APP 3 1 8 #[.int .i64 0] l7 1 (fun w => cellsOfS w ((some ⟨q12, 0, none⟩), 1, 1) (1 * 1)) (fun l13 w => f47.J4 l5 n6 l13 true n9 Kn1 k w) w) w) (f47.J4 l5 n6 l7 b8 n9 Kn1 k w)) w)) (f47.J4 l5 n6 l7 b8 n9 Kn1 k w)) (f47.J1 n6 l7 b8 k w)
def f47.L2lp (l5 : Sl) (n6 : Int) (l7 : Sl) (b8 : Bool) (n9 : Int) (k : Value → World → Prop) (w : World) : Prop := ∀ D : Nat → Value, (Code.loop (codeAt f47.body [1, 1, 1, 1, 0, 1, 0, 0])).wpIn (Wd none) 0 Tryz.prog (f47.Q1 k) (fr D 46 [45, 44, 40, 39, 38] [slv l5, .int .i64 n6, slv l7, .bool b8, .int .i64 n9] []) w
def f47.L2p (k : Value → World → Prop) : Act → World → Prop := PJ 46 [45, 44, 40, 39, 38] fun us ds w => un us fun v us => asS v fun l5 => un us fun v us => asI .i64 v fun n6 => un us fun v us => asS v fun l7 => un us fun v us => asB v fun b8 => un us fun v us => asI .i64 v fun n9 => nl us (dn ds (f47.L2lp l5 n6 l7 b8 n9 k w))
def f47.L2K (l5 : Sl) (n6 : Int) (I : Sl → Bool → Int → World → Prop) (μ : Sl → Bool → Int → World → Nat) (m : Nat) (l5' : Sl) (n6' : Int) (l7' : Sl) (b8' : Bool) (n9' : Int) (w : World) : Prop := (l5' = l5 ∧ n6' = n6) ∧ I l7' b8' n9' w ∧ μ l7' b8' n9' w < m
theorem f47.J3_den (D : Nat → Value) (l23 : Sl) (n24 : Int) (l25 : Sl) (b26 : Bool) (n27 : Int) (Kn1 : Sl → Int → Sl → Bool → Int → World → Prop) (k : Value → World → Prop) (w : World) : pc Tryz.prog none .none (codeAt f47.body [1, 1, 1, 1, 0, 1, 0, 0, 1, 1]) (f47.Q3 Kn1 k) D 46 [45, 44, 40, 39, 38] [slv l23, .int .i64 n24, slv l25, .bool b26, .int .i64 n27] [] w = f47.J3 l23 n24 l25 b26 n27 Kn1 k w := by kernel_rfl
theorem f47.J3_okc {Kn1 : Sl → Int → Sl → Bool → Int → World → Prop} {k : Value → World → Prop} : okC Tryz.prog none .none (codeAt f47.body [1, 1, 1, 1, 0, 1, 0, 0, 1, 1]) (f47.Q3 Kn1 k) :=
  Eq.mpr (by kernel_rfl : okC Tryz.prog none .none (codeAt f47.body [1, 1, 1, 1, 0, 1, 0, 0, 1, 1]) (f47.Q3 Kn1 k) = (True)) (trivial)
theorem f47.J3_ok {Kn1 : Sl → Int → Sl → Bool → Int → World → Prop} {k : Value → World → Prop} : OKJ Tryz.prog none (f47.J3p Kn1 k) (codeAt f47.body [1, 1, 1, 1, 0, 1, 0, 0, 1, 1]) (f47.Q3 Kn1 k) := by
  intro a w h
  obtain ⟨D, us, ds, rfl, h0⟩ := PJ_out h
  obtain ⟨v, us, rfl, h1⟩ := un_out h0
  obtain ⟨l23, rfl, h2⟩ := asS_out h1
  obtain ⟨v, us, rfl, h3⟩ := un_out h2
  obtain ⟨n24, rfl, h4⟩ := asI_out h3
  obtain ⟨v, us, rfl, h5⟩ := un_out h4
  obtain ⟨l25, rfl, h6⟩ := asS_out h5
  obtain ⟨v, us, rfl, h7⟩ := un_out h6
  obtain ⟨b26, rfl, h8⟩ := asB_out h7
  obtain ⟨v, us, rfl, h9⟩ := un_out h8
  obtain ⟨n27, rfl, h10⟩ := asI_out h9
  obtain ⟨rfl, h11⟩ := nl_out h10
  obtain ⟨rfl, h12⟩ := dn_out h11
  rw [← f47.J3_den D l23 n24 l25 b26 n27 Kn1 k w] at h12
  exact pc_wp Tryz.mixed f47.J3_okc h12
theorem f47.J4_den (D : Nat → Value) (l14 : Sl) (n15 : Int) (l16 : Sl) (b17 : Bool) (n18 : Int) (Kn1 : Sl → Int → Sl → Bool → Int → World → Prop) (k : Value → World → Prop) (w : World) : pc Tryz.prog none .none (codeAt f47.body [1, 1, 1, 1, 0, 1, 0, 0, 1, 0, 0, 1]) (f47.Q2 Kn1 k) D 46 [45, 44, 40, 39, 38] [slv l14, .int .i64 n15, slv l16, .bool b17, .int .i64 n18] [] w = f47.J4 l14 n15 l16 b17 n18 Kn1 k w := by kernel_rfl
theorem f47.J4_okc {Kn1 : Sl → Int → Sl → Bool → Int → World → Prop} {k : Value → World → Prop} : okC Tryz.prog none .none (codeAt f47.body [1, 1, 1, 1, 0, 1, 0, 0, 1, 0, 0, 1]) (f47.Q2 Kn1 k) :=
  Eq.mpr (by kernel_rfl : okC Tryz.prog none .none (codeAt f47.body [1, 1, 1, 1, 0, 1, 0, 0, 1, 0, 0, 1]) (f47.Q2 Kn1 k) = (True)) (trivial)
theorem f47.J4_ok {Kn1 : Sl → Int → Sl → Bool → Int → World → Prop} {k : Value → World → Prop} : OKJ Tryz.prog none (f47.J4p Kn1 k) (codeAt f47.body [1, 1, 1, 1, 0, 1, 0, 0, 1, 0, 0, 1]) (f47.Q2 Kn1 k) := by
  intro a w h
  obtain ⟨D, us, ds, rfl, h0⟩ := PJ_out h
  obtain ⟨v, us, rfl, h1⟩ := un_out h0
  obtain ⟨l14, rfl, h2⟩ := asS_out h1
  obtain ⟨v, us, rfl, h3⟩ := un_out h2
  obtain ⟨n15, rfl, h4⟩ := asI_out h3
  obtain ⟨v, us, rfl, h5⟩ := un_out h4
  obtain ⟨l16, rfl, h6⟩ := asS_out h5
  obtain ⟨v, us, rfl, h7⟩ := un_out h6
  obtain ⟨b17, rfl, h8⟩ := asB_out h7
  obtain ⟨v, us, rfl, h9⟩ := un_out h8
  obtain ⟨n18, rfl, h10⟩ := asI_out h9
  obtain ⟨rfl, h11⟩ := nl_out h10
  obtain ⟨rfl, h12⟩ := dn_out h11
  rw [← f47.J4_den D l14 n15 l16 b17 n18 Kn1 k w] at h12
  exact pc_wp Tryz.mixed f47.J4_okc h12
theorem f47.J5_den (D : Nat → Value) (l33 : Sl) (k : Value → World → Prop) (w : World) : pc Tryz.prog none .none (codeAt f47.body [1, 1, 1, 1, 1, 1]) (f47.Q4 k) D 46 [40] [slv l33] [] w = f47.J5 l33 k w := by kernel_rfl
theorem f47.J5_okc {k : Value → World → Prop} : okC Tryz.prog none .none (codeAt f47.body [1, 1, 1, 1, 1, 1]) (f47.Q4 k) :=
  Eq.mpr (by kernel_rfl : okC Tryz.prog none .none (codeAt f47.body [1, 1, 1, 1, 1, 1]) (f47.Q4 k) = (True)) (trivial)
theorem f47.J5_ok {k : Value → World → Prop} : OKJ Tryz.prog none (f47.J5p k) (codeAt f47.body [1, 1, 1, 1, 1, 1]) (f47.Q4 k) := by
  intro a w h
  obtain ⟨D, us, ds, rfl, h0⟩ := PJ_out h
  obtain ⟨v, us, rfl, h1⟩ := un_out h0
  obtain ⟨l33, rfl, h2⟩ := asS_out h1
  obtain ⟨rfl, h3⟩ := nl_out h2
  obtain ⟨rfl, h4⟩ := dn_out h3
  rw [← f47.J5_den D l33 k w] at h4
  exact pc_wp Tryz.mixed f47.J5_okc h4
theorem f47.J1_den (D : Nat → Value) (n28 : Int) (l29 : Sl) (b30 : Bool) (k : Value → World → Prop) (w : World) : pc Tryz.prog none (.seq (some (f47.J5p k)) .none .none) (codeAt f47.body [1, 1, 1, 1, 1]) (f47.Q4 k) D 46 [44, 40, 39] [.int .i64 n28, slv l29, .bool b30] [] w = f47.J1 n28 l29 b30 k w := by kernel_rfl
theorem f47.J1_okc {k : Value → World → Prop} : okC Tryz.prog none (.seq (some (f47.J5p k)) .none .none) (codeAt f47.body [1, 1, 1, 1, 1]) (f47.Q4 k) :=
  Eq.mpr (by kernel_rfl : okC Tryz.prog none (.seq (some (f47.J5p k)) .none .none) (codeAt f47.body [1, 1, 1, 1, 1]) (f47.Q4 k) = (((True) ∧ OKJ Tryz.prog none (f47.J5p k) (codeAt f47.body [1, 1, 1, 1, 1, 1]) (f47.Q4 k)))) (⟨trivial, f47.J5_ok⟩)
theorem f47.J1_ok {k : Value → World → Prop} : OKJ Tryz.prog none (f47.J1p k) (codeAt f47.body [1, 1, 1, 1, 1]) (f47.Q4 k) := by
  intro a w h
  obtain ⟨D, us, ds, rfl, h0⟩ := PJ_out h
  obtain ⟨v, us, rfl, h1⟩ := un_out h0
  obtain ⟨n28, rfl, h2⟩ := asI_out h1
  obtain ⟨v, us, rfl, h3⟩ := un_out h2
  obtain ⟨l29, rfl, h4⟩ := asS_out h3
  obtain ⟨v, us, rfl, h5⟩ := un_out h4
  obtain ⟨b30, rfl, h6⟩ := asB_out h5
  obtain ⟨rfl, h7⟩ := nl_out h6
  obtain ⟨rfl, h8⟩ := dn_out h7
  rw [← f47.J1_den D n28 l29 b30 k w] at h8
  exact pc_wp Tryz.mixed f47.J1_okc h8
theorem f47.L2_next {l5 : Sl} {n6 : Int} {I : Sl → Bool → Int → World → Prop} {μ : Sl → Bool → Int → World → Nat} {m : Nat} {l7 : Sl} {b8 : Bool} {n9 : Int} {w : World} (hI : I l7 b8 n9 w) (hlt : μ l7 b8 n9 w < m) : f47.L2K l5 n6 I μ m l5 n6 l7 b8 n9 w := ⟨⟨rfl, rfl⟩, hI, hlt⟩
theorem f47.L2_den (D : Nat → Value) (l5 : Sl) (n6 : Int) (l7 : Sl) (b8 : Bool) (n9 : Int) (Kn1 : Sl → Int → Sl → Bool → Int → World → Prop) (k : Value → World → Prop) (w : World) : pc Tryz.prog none (.seq none .none (.seq (some (f47.J3p Kn1 k)) (.block (.seq (some (f47.J4p Kn1 k)) .none .none)) .none)) (codeAt f47.body [1, 1, 1, 1, 0, 1, 0, 0]) (Exit.then (f47.L2k Kn1) (f47.Q1 k)) D 46 [45, 44, 40, 39, 38] [slv l5, .int .i64 n6, slv l7, .bool b8, .int .i64 n9] [] w = f47.L2 l5 n6 l7 b8 n9 Kn1 k w := by kernel_rfl
theorem f47.L2_okc {Kn1 : Sl → Int → Sl → Bool → Int → World → Prop} {k : Value → World → Prop} : okC Tryz.prog none (.seq none .none (.seq (some (f47.J3p Kn1 k)) (.block (.seq (some (f47.J4p Kn1 k)) .none .none)) .none)) (codeAt f47.body [1, 1, 1, 1, 0, 1, 0, 0]) (Exit.then (f47.L2k Kn1) (f47.Q1 k)) :=
  Eq.mpr (by kernel_rfl : okC Tryz.prog none (.seq none .none (.seq (some (f47.J3p Kn1 k)) (.block (.seq (some (f47.J4p Kn1 k)) .none .none)) .none)) (codeAt f47.body [1, 1, 1, 1, 0, 1, 0, 0]) (Exit.then (f47.L2k Kn1) (f47.Q1 k)) = (((True) ∧ (((((True) ∧ OKJ Tryz.prog none (f47.J4p Kn1 k) (codeAt f47.body [1, 1, 1, 1, 0, 1, 0, 0, 1, 0, 0, 1]) (f47.Q2 Kn1 k))) ∧ OKJ Tryz.prog none (f47.J3p Kn1 k) (codeAt f47.body [1, 1, 1, 1, 0, 1, 0, 0, 1, 1]) (f47.Q3 Kn1 k)))))) (⟨trivial, ⟨⟨trivial, f47.J4_ok⟩, f47.J3_ok⟩⟩)
theorem f47.L2_ok {k : Value → World → Prop} : OKJ Tryz.prog none (f47.L2p k) (codeAt f47.body [1, 1, 1, 1, 0, 1, 0]) (f47.Q1 k) := by
  intro a w h
  obtain ⟨D, us, ds, rfl, h0⟩ := PJ_out h
  obtain ⟨v, us, rfl, h1⟩ := un_out h0
  obtain ⟨l5, rfl, h2⟩ := asS_out h1
  obtain ⟨v, us, rfl, h3⟩ := un_out h2
  obtain ⟨n6, rfl, h4⟩ := asI_out h3
  obtain ⟨v, us, rfl, h5⟩ := un_out h4
  obtain ⟨l7, rfl, h6⟩ := asS_out h5
  obtain ⟨v, us, rfl, h7⟩ := un_out h6
  obtain ⟨b8, rfl, h8⟩ := asB_out h7
  obtain ⟨v, us, rfl, h9⟩ := un_out h8
  obtain ⟨n9, rfl, h10⟩ := asI_out h9
  obtain ⟨rfl, h11⟩ := nl_out h10
  obtain ⟨rfl, h12⟩ := dn_out h11
  rw [show (codeAt f47.body [1, 1, 1, 1, 0, 1, 0]) = Code.loop (codeAt f47.body [1, 1, 1, 1, 0, 1, 0, 0]) by kernel_rfl]
  exact h12 D
theorem f47.L2_rule {l5 : Sl} {n6 : Int} {k : Value → World → Prop} (I : Sl → Bool → Int → World → Prop) (μ : Sl → Bool → Int → World → Nat) {l7 : Sl} {b8 : Bool} {n9 : Int} {w : World} (h0 : I l7 b8 n9 w)
    (hr : ∀ (l7 : Sl) (b8 : Bool) (n9 : Int) (w : World), I l7 b8 n9 w → f47.L2 l5 n6 l7 b8 n9 (f47.L2K l5 n6 I μ (μ l7 b8 n9 w)) k w) : f47.L2lp l5 n6 l7 b8 n9 k w := by
  intro D0
  refine loop_ind (P := Tryz.prog) (fun m a w => ∃ l7 : Sl, ∃ b8 : Bool, ∃ n9 : Int, ∃ D : Nat → Value, a = fr D 46 [45, 44, 40, 39, 38] [slv l5, .int .i64 n6, slv l7, .bool b8, .int .i64 n9] [] ∧ I l7 b8 n9 w ∧ μ l7 b8 n9 w = m) ?_ (μ l7 b8 n9 w) ⟨_, _, _, D0, rfl, h0, rfl⟩
  rintro m a w ⟨l7, b8, n9, D, rfl, hI, rfl⟩
  have h := hr l7 b8 n9 w hI
  rw [← f47.L2_den D l5 n6 l7 b8 n9 (f47.L2K l5 n6 I μ (μ l7 b8 n9 w)) k w] at h
  refine then_mono (pc_wp Tryz.mixed f47.L2_okc h) ?_
  clear h
  intro a w h
  obtain ⟨D, us, ds, rfl, h0⟩ := PJ_out h
  obtain ⟨v, us, rfl, h1⟩ := un_out h0
  obtain ⟨l5', rfl, h2⟩ := asS_out h1
  obtain ⟨v, us, rfl, h3⟩ := un_out h2
  obtain ⟨n6', rfl, h4⟩ := asI_out h3
  obtain ⟨v, us, rfl, h5⟩ := un_out h4
  obtain ⟨l7', rfl, h6⟩ := asS_out h5
  obtain ⟨v, us, rfl, h7⟩ := un_out h6
  obtain ⟨b8', rfl, h8⟩ := asB_out h7
  obtain ⟨v, us, rfl, h9⟩ := un_out h8
  obtain ⟨n9', rfl, h10⟩ := asI_out h9
  obtain ⟨rfl, h11⟩ := nl_out h10
  obtain ⟨rfl, h12⟩ := dn_out h11
  obtain ⟨⟨rfl, rfl⟩, hI, hlt⟩ := h12
  exact ⟨_, hlt, _, _, _, D, rfl, hI, rfl⟩
def f47.b (l1 : Sl) (n2 : Int) (k : Value → World → Prop) (w : World) : Prop :=
  CALL Tryz.prog 80 #[slv l1, .int .i64 n2] (fun v3 w => ∃ b4 : Bool, v3 = .bool b4 ∧ brK b4 (k (slv l1) w) (f47.L2lp l1 n2 (none, 0, 0) false 0 k w)) w
theorem f47.den (l1 : Sl) (n2 : Int) (k : Value → World → Prop) (w : World) : pc Tryz.prog none (.seq none .none (.seq none .none (.seq none .none (.seq none .none (.seq (some (f47.J1p k)) (.seq none .none (.block (.at (f47.L2p k)))) .none))))) f47.body (retQ Tryz.prog [.tmp 4] k) (fun _ => undef) 46 [45, 44] [slv l1, .int .i64 n2] [] w = f47.b l1 n2 k w := by kernel_rfl
theorem f47.okc {k : Value → World → Prop} : okC Tryz.prog none (.seq none .none (.seq none .none (.seq none .none (.seq none .none (.seq (some (f47.J1p k)) (.seq none .none (.block (.at (f47.L2p k)))) .none))))) f47.body (retQ Tryz.prog [.tmp 4] k) :=
  Eq.mpr (by kernel_rfl : okC Tryz.prog none (.seq none .none (.seq none .none (.seq none .none (.seq none .none (.seq (some (f47.J1p k)) (.seq none .none (.block (.at (f47.L2p k)))) .none))))) f47.body (retQ Tryz.prog [.tmp 4] k) = (((True) ∧ (((True) ∧ (((True) ∧ (((True) ∧ (((((True) ∧ (OKJ Tryz.prog none (f47.L2p k) (codeAt f47.body [1, 1, 1, 1, 0, 1, 0]) (f47.Q1 k)))) ∧ OKJ Tryz.prog none (f47.J1p k) (codeAt f47.body [1, 1, 1, 1, 1]) (f47.Q4 k)))))))))))) (⟨trivial, ⟨trivial, ⟨trivial, ⟨trivial, ⟨⟨trivial, f47.L2_ok⟩, f47.J1_ok⟩⟩⟩⟩⟩)
theorem f47.call {l1 : Sl} {n2 : Int} {k : Value → World → Prop} {w : World} (h : f47.b l1 n2 k w) : CALL Tryz.prog 47 #[slv l1, .int .i64 n2] k w :=
  calls_of_pc Tryz.mixed Tryz.func47 (by kernel_rfl : Tryz.f47.body = some f47.body) (Tryz.call47 _ _) (by kernel_rfl : #[slv l1, .int .i64 n2] ++ Array.replicate (Tryz.f47.ntmps - (#[slv l1, .int .i64 n2] : Array Value).size) undef = (FR (fun _ => undef) 46 [45, 44] [slv l1, .int .i64 n2]).toArray) (by kernel_rfl : Tryz.f47.results.toList = [.tmp 4]) f47.okc ((f47.den l1 n2 k w).symm ▸ h)

/-! rollcall/rollcallref01.Num -/
noncomputable def f48.body : Code := (Tryz.f48.body).getD .skip
def f48.b (n1 : Int) (k : Value → World → Prop) (w : World) : Prop :=
  brK (decide ((0 : Int) ≤ n1)) (CALL Tryz.prog 81 #[.int .i64 n1] (fun v2 w => ∃ s3 : ByteArray, v2 = .string s3 ∧ k (.string s3) w) w) (brK (decide (((-10) : Int) < n1)) (CALL Tryz.prog 81 #[.int .i64 (IntKind.wrap .i64 (0 - n1))] (fun v4 w => ∃ s5 : ByteArray, v4 = .string s5 ∧ RQ ((((⟨#[45]⟩ : ByteArray).size + s5.size : Nat) : Int) ≤ 9223372036854775807) (k (.string ((⟨#[45]⟩ : ByteArray) ++ s5)) w)) w) (RQ ((10 : Int) ≠ 0) (CALL Tryz.prog 48 #[.int .i64 (IntKind.wrap .i64 (Int.tdiv n1 10))] (fun v6 w => ∃ s7 : ByteArray, v6 = .string s7 ∧ RQ ((10 : Int) ≠ 0) (CALL Tryz.prog 81 #[.int .i64 (IntKind.wrap .i64 (0 - (Int.tmod n1 10)))] (fun v8 w => ∃ s9 : ByteArray, v8 = .string s9 ∧ RQ (((s7.size + s9.size : Nat) : Int) ≤ 9223372036854775807) (k (.string (s7 ++ s9)) w)) w)) w)))
theorem f48.den (n1 : Int) (k : Value → World → Prop) (w : World) : pc Tryz.prog none .none f48.body (retQ Tryz.prog [.tmp 2] k) (fun _ => undef) 21 [20] [.int .i64 n1] [] w = f48.b n1 k w := by kernel_rfl
theorem f48.okc {k : Value → World → Prop} : okC Tryz.prog none .none f48.body (retQ Tryz.prog [.tmp 2] k) :=
  Eq.mpr (by kernel_rfl : okC Tryz.prog none .none f48.body (retQ Tryz.prog [.tmp 2] k) = (True)) (trivial)
theorem f48.call {n1 : Int} {k : Value → World → Prop} {w : World} (h : f48.b n1 k w) : CALL Tryz.prog 48 #[.int .i64 n1] k w :=
  calls_of_pc Tryz.mixed Tryz.func48 (by kernel_rfl : Tryz.f48.body = some f48.body) (Tryz.call48 _ _) (by kernel_rfl : #[.int .i64 n1] ++ Array.replicate (Tryz.f48.ntmps - (#[.int .i64 n1] : Array Value).size) undef = (FR (fun _ => undef) 21 [20] [.int .i64 n1]).toArray) (by kernel_rfl : Tryz.f48.results.toList = [.tmp 2]) f48.okc ((f48.den n1 k w).symm ▸ h)

/-! rollcall/room.bit -/
noncomputable def f49.body : Code := (Tryz.f49.body).getD .skip
def f49.b (n1 : Int) (k : Value → World → Prop) (w : World) : Prop :=
  CALL Tryz.prog 82 #[.string (⟨#[105, 109, 110, 115, 116]⟩ : ByteArray), .int .u8 n1] (fun v2 w => ∃ n3 : Int, v2 = .int .i64 n3 ∧ brK (decide ((0 : Int) ≤ n3)) (RQ ((0 : Int) ≤ n3) (k (.int .i64 (IntKind.wrap .i64 (1 * 2 ^ (min (Int.toNat n3) (IntKind.bits .i64))))) w)) (k (.int .i64 0) w)) w
theorem f49.den (n1 : Int) (k : Value → World → Prop) (w : World) : pc Tryz.prog none .none f49.body (retQ Tryz.prog [.tmp 2] k) (fun _ => undef) 10 [9] [.int .u8 n1] [] w = f49.b n1 k w := by kernel_rfl
theorem f49.okc {k : Value → World → Prop} : okC Tryz.prog none .none f49.body (retQ Tryz.prog [.tmp 2] k) :=
  Eq.mpr (by kernel_rfl : okC Tryz.prog none .none f49.body (retQ Tryz.prog [.tmp 2] k) = (True)) (trivial)
theorem f49.call {n1 : Int} {k : Value → World → Prop} {w : World} (h : f49.b n1 k w) : CALL Tryz.prog 49 #[.int .u8 n1] k w :=
  calls_of_pc Tryz.mixed Tryz.func49 (by kernel_rfl : Tryz.f49.body = some f49.body) (Tryz.call49 _ _) (by kernel_rfl : #[.int .u8 n1] ++ Array.replicate (Tryz.f49.ntmps - (#[.int .u8 n1] : Array Value).size) undef = (FR (fun _ => undef) 10 [9] [.int .u8 n1]).toArray) (by kernel_rfl : Tryz.f49.results.toList = [.tmp 2]) f49.okc ((f49.den n1 k w).symm ▸ h)

/-! rollcall/glob.Any -/
noncomputable def f50.body : Code := (Tryz.f50.body).getD .skip
def f50.J1 (k : Value → World → Prop) (w : World) : Prop :=
  k (.bool false) w
def f50.J1p (k : Value → World → Prop) : Act → World → Prop := PJ 17 [] fun us ds w => nl us (dn ds (f50.J1 k w))
def f50.Q1 (k : Value → World → Prop) : Exit → Act → World → Prop := (Exit.inBlock 0 (Exit.then (f50.J1p k) (retQ Tryz.prog [.tmp 4] k)))
def f50.L2k (Kn1 : ByteArray → Sl → Int → Int → World → Prop) : Act → World → Prop := PJ 17 [16, 9, 8, 7] fun us ds w => un us fun v us => asStr v fun s3 => un us fun v us => asS v fun l4 => un us fun v us => asI .i64 v fun n5 => un us fun v us => asI .i64 v fun n6 => nl us (dn ds (Kn1 s3 l4 n5 n6 w))
def f50.Q2 (k : Value → World → Prop) : Exit → Act → World → Prop := (retQ Tryz.prog [.tmp 4] k)
def f50.L2 (s3 : ByteArray) (l4 : Sl) (n5 : Int) (n6 : Int) (Kn1 : ByteArray → Sl → Int → Int → World → Prop) (k : Value → World → Prop) (w : World) : Prop :=
  brK (decide (n6 < n5)) (IX l4 n6 1 (fun a7 => LD Value.string a7 (fun s8 w => CALL Tryz.prog 83 #[.string s8, .string s3] (fun v9 w => ∃ b10 : Bool, v9 = .bool b10 ∧ brK b10 (k (.bool true) w) (Kn1 s3 l4 n5 (IntKind.wrap .i64 (n6 + 1)) w)) w) w)) (f50.J1 k w)
def f50.L2lp (s3 : ByteArray) (l4 : Sl) (n5 : Int) (n6 : Int) (k : Value → World → Prop) (w : World) : Prop := ∀ D : Nat → Value, (Code.loop (codeAt f50.body [1, 0, 1, 0, 0])).wpIn (Wd none) 0 Tryz.prog (f50.Q1 k) (fr D 17 [16, 9, 8, 7] [.string s3, slv l4, .int .i64 n5, .int .i64 n6] []) w
def f50.L2p (k : Value → World → Prop) : Act → World → Prop := PJ 17 [16, 9, 8, 7] fun us ds w => un us fun v us => asStr v fun s3 => un us fun v us => asS v fun l4 => un us fun v us => asI .i64 v fun n5 => un us fun v us => asI .i64 v fun n6 => nl us (dn ds (f50.L2lp s3 l4 n5 n6 k w))
def f50.L2K (s3 : ByteArray) (l4 : Sl) (n5 : Int) (I : Int → World → Prop) (μ : Int → World → Nat) (m : Nat) (s3' : ByteArray) (l4' : Sl) (n5' : Int) (n6' : Int) (w : World) : Prop := (s3' = s3 ∧ l4' = l4 ∧ n5' = n5) ∧ I n6' w ∧ μ n6' w < m
theorem f50.J1_den (D : Nat → Value) (k : Value → World → Prop) (w : World) : pc Tryz.prog none .none (codeAt f50.body [1, 1]) (f50.Q2 k) D 17 [] [] [] w = f50.J1 k w := by kernel_rfl
theorem f50.J1_okc {k : Value → World → Prop} : okC Tryz.prog none .none (codeAt f50.body [1, 1]) (f50.Q2 k) :=
  Eq.mpr (by kernel_rfl : okC Tryz.prog none .none (codeAt f50.body [1, 1]) (f50.Q2 k) = (True)) (trivial)
theorem f50.J1_ok {k : Value → World → Prop} : OKJ Tryz.prog none (f50.J1p k) (codeAt f50.body [1, 1]) (f50.Q2 k) := by
  intro a w h
  obtain ⟨D, us, ds, rfl, h0⟩ := PJ_out h
  obtain ⟨rfl, h1⟩ := nl_out h0
  obtain ⟨rfl, h2⟩ := dn_out h1
  rw [← f50.J1_den D k w] at h2
  exact pc_wp Tryz.mixed f50.J1_okc h2
theorem f50.L2_next {s3 : ByteArray} {l4 : Sl} {n5 : Int} {I : Int → World → Prop} {μ : Int → World → Nat} {m : Nat} {n6 : Int} {w : World} (hI : I n6 w) (hlt : μ n6 w < m) : f50.L2K s3 l4 n5 I μ m s3 l4 n5 n6 w := ⟨⟨rfl, rfl, rfl⟩, hI, hlt⟩
theorem f50.L2_den (D : Nat → Value) (s3 : ByteArray) (l4 : Sl) (n5 : Int) (n6 : Int) (Kn1 : ByteArray → Sl → Int → Int → World → Prop) (k : Value → World → Prop) (w : World) : pc Tryz.prog none .none (codeAt f50.body [1, 0, 1, 0, 0]) (Exit.then (f50.L2k Kn1) (f50.Q1 k)) D 17 [16, 9, 8, 7] [.string s3, slv l4, .int .i64 n5, .int .i64 n6] [] w = f50.L2 s3 l4 n5 n6 Kn1 k w := by kernel_rfl
theorem f50.L2_okc {Kn1 : ByteArray → Sl → Int → Int → World → Prop} {k : Value → World → Prop} : okC Tryz.prog none .none (codeAt f50.body [1, 0, 1, 0, 0]) (Exit.then (f50.L2k Kn1) (f50.Q1 k)) :=
  Eq.mpr (by kernel_rfl : okC Tryz.prog none .none (codeAt f50.body [1, 0, 1, 0, 0]) (Exit.then (f50.L2k Kn1) (f50.Q1 k)) = (True)) (trivial)
theorem f50.L2_ok {k : Value → World → Prop} : OKJ Tryz.prog none (f50.L2p k) (codeAt f50.body [1, 0, 1, 0]) (f50.Q1 k) := by
  intro a w h
  obtain ⟨D, us, ds, rfl, h0⟩ := PJ_out h
  obtain ⟨v, us, rfl, h1⟩ := un_out h0
  obtain ⟨s3, rfl, h2⟩ := asStr_out h1
  obtain ⟨v, us, rfl, h3⟩ := un_out h2
  obtain ⟨l4, rfl, h4⟩ := asS_out h3
  obtain ⟨v, us, rfl, h5⟩ := un_out h4
  obtain ⟨n5, rfl, h6⟩ := asI_out h5
  obtain ⟨v, us, rfl, h7⟩ := un_out h6
  obtain ⟨n6, rfl, h8⟩ := asI_out h7
  obtain ⟨rfl, h9⟩ := nl_out h8
  obtain ⟨rfl, h10⟩ := dn_out h9
  rw [show (codeAt f50.body [1, 0, 1, 0]) = Code.loop (codeAt f50.body [1, 0, 1, 0, 0]) by kernel_rfl]
  exact h10 D
theorem f50.L2_rule {s3 : ByteArray} {l4 : Sl} {n5 : Int} {k : Value → World → Prop} (I : Int → World → Prop) (μ : Int → World → Nat) {n6 : Int} {w : World} (h0 : I n6 w)
    (hr : ∀ (n6 : Int) (w : World), I n6 w → f50.L2 s3 l4 n5 n6 (f50.L2K s3 l4 n5 I μ (μ n6 w)) k w) : f50.L2lp s3 l4 n5 n6 k w := by
  intro D0
  refine loop_ind (P := Tryz.prog) (fun m a w => ∃ n6 : Int, ∃ D : Nat → Value, a = fr D 17 [16, 9, 8, 7] [.string s3, slv l4, .int .i64 n5, .int .i64 n6] [] ∧ I n6 w ∧ μ n6 w = m) ?_ (μ n6 w) ⟨_, D0, rfl, h0, rfl⟩
  rintro m a w ⟨n6, D, rfl, hI, rfl⟩
  have h := hr n6 w hI
  rw [← f50.L2_den D s3 l4 n5 n6 (f50.L2K s3 l4 n5 I μ (μ n6 w)) k w] at h
  refine then_mono (pc_wp Tryz.mixed f50.L2_okc h) ?_
  clear h
  intro a w h
  obtain ⟨D, us, ds, rfl, h0⟩ := PJ_out h
  obtain ⟨v, us, rfl, h1⟩ := un_out h0
  obtain ⟨s3', rfl, h2⟩ := asStr_out h1
  obtain ⟨v, us, rfl, h3⟩ := un_out h2
  obtain ⟨l4', rfl, h4⟩ := asS_out h3
  obtain ⟨v, us, rfl, h5⟩ := un_out h4
  obtain ⟨n5', rfl, h6⟩ := asI_out h5
  obtain ⟨v, us, rfl, h7⟩ := un_out h6
  obtain ⟨n6', rfl, h8⟩ := asI_out h7
  obtain ⟨rfl, h9⟩ := nl_out h8
  obtain ⟨rfl, h10⟩ := dn_out h9
  obtain ⟨⟨rfl, rfl, rfl⟩, hI, hlt⟩ := h10
  exact ⟨_, hlt, _, D, rfl, hI, rfl⟩
def f50.b (s1 : ByteArray) (l2 : Sl) (k : Value → World → Prop) (w : World) : Prop :=
  f50.L2lp s1 l2 ((l2.2.1 : Nat) : Int) 0 k w
theorem f50.den (s1 : ByteArray) (l2 : Sl) (k : Value → World → Prop) (w : World) : pc Tryz.prog none (.seq none .none (.seq (some (f50.J1p k)) (.seq none .none (.block (.at (f50.L2p k)))) .none)) f50.body (retQ Tryz.prog [.tmp 4] k) (fun _ => undef) 17 [16, 15] [.string s1, slv l2] [] w = f50.b s1 l2 k w := by kernel_rfl
theorem f50.okc {k : Value → World → Prop} : okC Tryz.prog none (.seq none .none (.seq (some (f50.J1p k)) (.seq none .none (.block (.at (f50.L2p k)))) .none)) f50.body (retQ Tryz.prog [.tmp 4] k) :=
  Eq.mpr (by kernel_rfl : okC Tryz.prog none (.seq none .none (.seq (some (f50.J1p k)) (.seq none .none (.block (.at (f50.L2p k)))) .none)) f50.body (retQ Tryz.prog [.tmp 4] k) = (((True) ∧ (((((True) ∧ (OKJ Tryz.prog none (f50.L2p k) (codeAt f50.body [1, 0, 1, 0]) (f50.Q1 k)))) ∧ OKJ Tryz.prog none (f50.J1p k) (codeAt f50.body [1, 1]) (f50.Q2 k)))))) (⟨trivial, ⟨⟨trivial, f50.L2_ok⟩, f50.J1_ok⟩⟩)
theorem f50.call {s1 : ByteArray} {l2 : Sl} {k : Value → World → Prop} {w : World} (h : f50.b s1 l2 k w) : CALL Tryz.prog 50 #[.string s1, slv l2] k w :=
  calls_of_pc Tryz.mixed Tryz.func50 (by kernel_rfl : Tryz.f50.body = some f50.body) (Tryz.call50 _ _) (by kernel_rfl : #[.string s1, slv l2] ++ Array.replicate (Tryz.f50.ntmps - (#[.string s1, slv l2] : Array Value).size) undef = (FR (fun _ => undef) 17 [16, 15] [.string s1, slv l2]).toArray) (by kernel_rfl : Tryz.f50.results.toList = [.tmp 4]) f50.okc ((f50.den s1 l2 k w).symm ▸ h)

/-! rollcall/rollcallref01.Byte -/
noncomputable def f51.body : Code := (Tryz.f51.body).getD .skip
def f51.J1 (n8 : Int) (k : Value → World → Prop) (w : World) : Prop :=
  k (.int .u8 n8) w
def f51.J1p (k : Value → World → Prop) : Act → World → Prop := PJ 21 [20] fun us ds w => un us fun v us => asI .u8 v fun n8 => nl us (dn ds (f51.J1 n8 k w))
def f51.Q1 (k : Value → World → Prop) : Exit → Act → World → Prop := (Exit.inBlock 0 (Exit.then (f51.J1p k) (retQ Tryz.prog [.tmp 2] k)))
def f51.L2k (Kn1 : Int → ByteArray → ByteArray → Int → World → Prop) : Act → World → Prop := PJ 21 [20, 17, 16, 15] fun us ds w => un us fun v us => asI .u8 v fun n2 => un us fun v us => asStr v fun s3 => un us fun v us => asStr v fun s4 => un us fun v us => asI .i64 v fun n5 => nl us (dn ds (Kn1 n2 s3 s4 n5 w))
def f51.Q2 (k : Value → World → Prop) : Exit → Act → World → Prop := (retQ Tryz.prog [.tmp 2] k)
def f51.L2 (n2 : Int) (s3 : ByteArray) (s4 : ByteArray) (n5 : Int) (Kn1 : Int → ByteArray → ByteArray → Int → World → Prop) (k : Value → World → Prop) (w : World) : Prop :=
  brK (decide (n5 < ((s3.size : Nat) : Int))) (SIX s3 n5 (fun c6 => brK (c6 == n2) (SIX s4 n5 (fun c7 => k (.int .u8 c7) w)) (Kn1 n2 s3 s4 (IntKind.wrap .i64 (n5 + 1)) w))) (f51.J1 n2 k w)
def f51.L2lp (n2 : Int) (s3 : ByteArray) (s4 : ByteArray) (n5 : Int) (k : Value → World → Prop) (w : World) : Prop := ∀ D : Nat → Value, (Code.loop (codeAt f51.body [1, 1, 1, 0, 1, 0, 0])).wpIn (Wd none) 0 Tryz.prog (f51.Q1 k) (fr D 21 [20, 17, 16, 15] [.int .u8 n2, .string s3, .string s4, .int .i64 n5] []) w
def f51.L2p (k : Value → World → Prop) : Act → World → Prop := PJ 21 [20, 17, 16, 15] fun us ds w => un us fun v us => asI .u8 v fun n2 => un us fun v us => asStr v fun s3 => un us fun v us => asStr v fun s4 => un us fun v us => asI .i64 v fun n5 => nl us (dn ds (f51.L2lp n2 s3 s4 n5 k w))
def f51.L2K (n2 : Int) (s3 : ByteArray) (s4 : ByteArray) (I : Int → World → Prop) (μ : Int → World → Nat) (m : Nat) (n2' : Int) (s3' : ByteArray) (s4' : ByteArray) (n5' : Int) (w : World) : Prop := (n2' = n2 ∧ s3' = s3 ∧ s4' = s4) ∧ I n5' w ∧ μ n5' w < m
theorem f51.J1_den (D : Nat → Value) (n8 : Int) (k : Value → World → Prop) (w : World) : pc Tryz.prog none .none (codeAt f51.body [1, 1, 1, 1]) (f51.Q2 k) D 21 [20] [.int .u8 n8] [] w = f51.J1 n8 k w := by kernel_rfl
theorem f51.J1_okc {k : Value → World → Prop} : okC Tryz.prog none .none (codeAt f51.body [1, 1, 1, 1]) (f51.Q2 k) :=
  Eq.mpr (by kernel_rfl : okC Tryz.prog none .none (codeAt f51.body [1, 1, 1, 1]) (f51.Q2 k) = (True)) (trivial)
theorem f51.J1_ok {k : Value → World → Prop} : OKJ Tryz.prog none (f51.J1p k) (codeAt f51.body [1, 1, 1, 1]) (f51.Q2 k) := by
  intro a w h
  obtain ⟨D, us, ds, rfl, h0⟩ := PJ_out h
  obtain ⟨v, us, rfl, h1⟩ := un_out h0
  obtain ⟨n8, rfl, h2⟩ := asI_out h1
  obtain ⟨rfl, h3⟩ := nl_out h2
  obtain ⟨rfl, h4⟩ := dn_out h3
  rw [← f51.J1_den D n8 k w] at h4
  exact pc_wp Tryz.mixed f51.J1_okc h4
theorem f51.L2_next {n2 : Int} {s3 : ByteArray} {s4 : ByteArray} {I : Int → World → Prop} {μ : Int → World → Nat} {m : Nat} {n5 : Int} {w : World} (hI : I n5 w) (hlt : μ n5 w < m) : f51.L2K n2 s3 s4 I μ m n2 s3 s4 n5 w := ⟨⟨rfl, rfl, rfl⟩, hI, hlt⟩
theorem f51.L2_den (D : Nat → Value) (n2 : Int) (s3 : ByteArray) (s4 : ByteArray) (n5 : Int) (Kn1 : Int → ByteArray → ByteArray → Int → World → Prop) (k : Value → World → Prop) (w : World) : pc Tryz.prog none .none (codeAt f51.body [1, 1, 1, 0, 1, 0, 0]) (Exit.then (f51.L2k Kn1) (f51.Q1 k)) D 21 [20, 17, 16, 15] [.int .u8 n2, .string s3, .string s4, .int .i64 n5] [] w = f51.L2 n2 s3 s4 n5 Kn1 k w := by kernel_rfl
theorem f51.L2_okc {Kn1 : Int → ByteArray → ByteArray → Int → World → Prop} {k : Value → World → Prop} : okC Tryz.prog none .none (codeAt f51.body [1, 1, 1, 0, 1, 0, 0]) (Exit.then (f51.L2k Kn1) (f51.Q1 k)) :=
  Eq.mpr (by kernel_rfl : okC Tryz.prog none .none (codeAt f51.body [1, 1, 1, 0, 1, 0, 0]) (Exit.then (f51.L2k Kn1) (f51.Q1 k)) = (True)) (trivial)
theorem f51.L2_ok {k : Value → World → Prop} : OKJ Tryz.prog none (f51.L2p k) (codeAt f51.body [1, 1, 1, 0, 1, 0]) (f51.Q1 k) := by
  intro a w h
  obtain ⟨D, us, ds, rfl, h0⟩ := PJ_out h
  obtain ⟨v, us, rfl, h1⟩ := un_out h0
  obtain ⟨n2, rfl, h2⟩ := asI_out h1
  obtain ⟨v, us, rfl, h3⟩ := un_out h2
  obtain ⟨s3, rfl, h4⟩ := asStr_out h3
  obtain ⟨v, us, rfl, h5⟩ := un_out h4
  obtain ⟨s4, rfl, h6⟩ := asStr_out h5
  obtain ⟨v, us, rfl, h7⟩ := un_out h6
  obtain ⟨n5, rfl, h8⟩ := asI_out h7
  obtain ⟨rfl, h9⟩ := nl_out h8
  obtain ⟨rfl, h10⟩ := dn_out h9
  rw [show (codeAt f51.body [1, 1, 1, 0, 1, 0]) = Code.loop (codeAt f51.body [1, 1, 1, 0, 1, 0, 0]) by kernel_rfl]
  exact h10 D
theorem f51.L2_rule {n2 : Int} {s3 : ByteArray} {s4 : ByteArray} {k : Value → World → Prop} (I : Int → World → Prop) (μ : Int → World → Nat) {n5 : Int} {w : World} (h0 : I n5 w)
    (hr : ∀ (n5 : Int) (w : World), I n5 w → f51.L2 n2 s3 s4 n5 (f51.L2K n2 s3 s4 I μ (μ n5 w)) k w) : f51.L2lp n2 s3 s4 n5 k w := by
  intro D0
  refine loop_ind (P := Tryz.prog) (fun m a w => ∃ n5 : Int, ∃ D : Nat → Value, a = fr D 21 [20, 17, 16, 15] [.int .u8 n2, .string s3, .string s4, .int .i64 n5] [] ∧ I n5 w ∧ μ n5 w = m) ?_ (μ n5 w) ⟨_, D0, rfl, h0, rfl⟩
  rintro m a w ⟨n5, D, rfl, hI, rfl⟩
  have h := hr n5 w hI
  rw [← f51.L2_den D n2 s3 s4 n5 (f51.L2K n2 s3 s4 I μ (μ n5 w)) k w] at h
  refine then_mono (pc_wp Tryz.mixed f51.L2_okc h) ?_
  clear h
  intro a w h
  obtain ⟨D, us, ds, rfl, h0⟩ := PJ_out h
  obtain ⟨v, us, rfl, h1⟩ := un_out h0
  obtain ⟨n2', rfl, h2⟩ := asI_out h1
  obtain ⟨v, us, rfl, h3⟩ := un_out h2
  obtain ⟨s3', rfl, h4⟩ := asStr_out h3
  obtain ⟨v, us, rfl, h5⟩ := un_out h4
  obtain ⟨s4', rfl, h6⟩ := asStr_out h5
  obtain ⟨v, us, rfl, h7⟩ := un_out h6
  obtain ⟨n5', rfl, h8⟩ := asI_out h7
  obtain ⟨rfl, h9⟩ := nl_out h8
  obtain ⟨rfl, h10⟩ := dn_out h9
  obtain ⟨⟨rfl, rfl, rfl⟩, hI, hlt⟩ := h10
  exact ⟨_, hlt, _, D, rfl, hI, rfl⟩
def f51.b (n1 : Int) (k : Value → World → Prop) (w : World) : Prop :=
  f51.L2lp n1 (⟨#[65, 66, 67, 68, 69, 70, 71, 72, 73, 74, 75, 76, 77, 78, 79, 80, 81, 82, 83, 84, 85, 86, 87, 88, 89, 90, 91, 93, 92, 126]⟩ : ByteArray) (⟨#[97, 98, 99, 100, 101, 102, 103, 104, 105, 106, 107, 108, 109, 110, 111, 112, 113, 114, 115, 116, 117, 118, 119, 120, 121, 122, 123, 125, 124, 94]⟩ : ByteArray) 0 k w
theorem f51.den (n1 : Int) (k : Value → World → Prop) (w : World) : pc Tryz.prog none (.seq none .none (.seq none .none (.seq none .none (.seq (some (f51.J1p k)) (.seq none .none (.block (.at (f51.L2p k)))) .none)))) f51.body (retQ Tryz.prog [.tmp 2] k) (fun _ => undef) 21 [20] [.int .u8 n1] [] w = f51.b n1 k w := by kernel_rfl
theorem f51.okc {k : Value → World → Prop} : okC Tryz.prog none (.seq none .none (.seq none .none (.seq none .none (.seq (some (f51.J1p k)) (.seq none .none (.block (.at (f51.L2p k)))) .none)))) f51.body (retQ Tryz.prog [.tmp 2] k) :=
  Eq.mpr (by kernel_rfl : okC Tryz.prog none (.seq none .none (.seq none .none (.seq none .none (.seq (some (f51.J1p k)) (.seq none .none (.block (.at (f51.L2p k)))) .none)))) f51.body (retQ Tryz.prog [.tmp 2] k) = (((True) ∧ (((True) ∧ (((True) ∧ (((((True) ∧ (OKJ Tryz.prog none (f51.L2p k) (codeAt f51.body [1, 1, 1, 0, 1, 0]) (f51.Q1 k)))) ∧ OKJ Tryz.prog none (f51.J1p k) (codeAt f51.body [1, 1, 1, 1]) (f51.Q2 k)))))))))) (⟨trivial, ⟨trivial, ⟨trivial, ⟨⟨trivial, f51.L2_ok⟩, f51.J1_ok⟩⟩⟩⟩)
theorem f51.call {n1 : Int} {k : Value → World → Prop} {w : World} (h : f51.b n1 k w) : CALL Tryz.prog 51 #[.int .u8 n1] k w :=
  calls_of_pc Tryz.mixed Tryz.func51 (by kernel_rfl : Tryz.f51.body = some f51.body) (Tryz.call51 _ _) (by kernel_rfl : #[.int .u8 n1] ++ Array.replicate (Tryz.f51.ntmps - (#[.int .u8 n1] : Array Value).size) undef = (FR (fun _ => undef) 21 [20] [.int .u8 n1]).toArray) (by kernel_rfl : Tryz.f51.results.toList = [.tmp 2]) f51.okc ((f51.den n1 k w).symm ▸ h)

/-! slices.Insert[[]rollcall/api.Member,rollcall/api.Member] -/
noncomputable def f52.body : Code := (Tryz.f52.body).getD .skip
def f52.b (l1 : Sl) (n2 : Int) (l3 : Sl) (k : Value → World → Prop) (w : World) : Prop :=
  RQ (0 ≤ (n2 : Int) ∧ (n2 : Int) ≤ ((l1.2.1 : Nat) : Int)) (brK (((l3.2.1 : Nat) : Int) == 0) (k (slv l1) w) (brK (n2 == ((l1.2.1 : Nat) : Int)) (APP 39 3 16 #[.int .i64 0, .bool false, .bool false] l1 l3.2.1 (fun w => cellsOfS w l3 (l3.2.1 * 3)) (fun l4 w => k (slv l4) w) w) (brK (decide (((l1.2.2 : Nat) : Int) < (IntKind.wrap .i64 (((l1.2.1 : Nat) : Int) + ((l3.2.1 : Nat) : Int))))) (RQ (0 ≤ (n2 : Int) ∧ (n2 : Int) ≤ ((l1.2.2 : Nat) : Int)) (RQ (0 ≤ (IntKind.wrap .i64 ((IntKind.wrap .i64 (((l1.2.1 : Nat) : Int) + ((l3.2.1 : Nat) : Int))) - n2) : Int) ∧ (IntKind.wrap .i64 ((IntKind.wrap .i64 (((l1.2.1 : Nat) : Int) + ((l3.2.1 : Nat) : Int))) - n2) : Int) ≤ 9223372036854775807 ∧ IntKind.i64 = .i64 ∧ (IntKind.wrap .i64 ((IntKind.wrap .i64 (((l1.2.1 : Nat) : Int) + ((l3.2.1 : Nat) : Int))) - n2) : Int) * ((16 : Nat) : Int) ≤ 281474976710656 ∧ (3 : Nat) ≠ 0 ∧ (((slSub l1 0 ((n2 : Int).toNat) 3).2.1 : Nat) : Int) + (IntKind.wrap .i64 ((IntKind.wrap .i64 (((l1.2.1 : Nat) : Int) + ((l3.2.1 : Nat) : Int))) - n2) : Int) ≤ 9223372036854775807) (APP 39 3 16 #[.int .i64 0, .bool false, .bool false] (slSub l1 0 ((n2 : Int).toNat) 3) (Int.toNat (IntKind.wrap .i64 ((IntKind.wrap .i64 (((l1.2.1 : Nat) : Int) + ((l3.2.1 : Nat) : Int))) - n2) : Int)) (fun _ => some (zeroCellsL #[.int .i64 0, .bool false, .bool false] (Int.toNat (IntKind.wrap .i64 ((IntKind.wrap .i64 (((l1.2.1 : Nat) : Int) + ((l3.2.1 : Nat) : Int))) - n2) : Int)))) (fun l5 w => RQ (0 ≤ (n2 : Int) ∧ (n2 : Int) ≤ ((l5.2.1 : Nat) : Int)) (CPY 3 (slSub l5 ((n2 : Int).toNat) l5.2.1 3) l3 (fun n6 w => DR (fun w => RQ (0 ≤ (IntKind.wrap .i64 (n2 + ((l3.2.1 : Nat) : Int)) : Int) ∧ (IntKind.wrap .i64 (n2 + ((l3.2.1 : Nat) : Int)) : Int) ≤ ((l5.2.1 : Nat) : Int)) (RQ (0 ≤ (n2 : Int) ∧ (n2 : Int) ≤ ((l1.2.1 : Nat) : Int)) (CPY 3 (slSub l5 ((IntKind.wrap .i64 (n2 + ((l3.2.1 : Nat) : Int)) : Int).toNat) l5.2.1 3) (slSub l1 ((n2 : Int).toNat) l1.2.1 3) (fun n7 w => k (slv l5) w) w))) w) w)) w))) (RQ (0 ≤ (IntKind.wrap .i64 (((l1.2.1 : Nat) : Int) + ((l3.2.1 : Nat) : Int)) : Int) ∧ (IntKind.wrap .i64 (((l1.2.1 : Nat) : Int) + ((l3.2.1 : Nat) : Int)) : Int) ≤ ((l1.2.2 : Nat) : Int)) (RQ (0 ≤ (IntKind.wrap .i64 (n2 + ((l3.2.1 : Nat) : Int)) : Int) ∧ (IntKind.wrap .i64 (n2 + ((l3.2.1 : Nat) : Int)) : Int) ≤ (((slSub l1 0 ((IntKind.wrap .i64 (((l1.2.1 : Nat) : Int) + ((l3.2.1 : Nat) : Int)) : Int).toNat) 3).2.1 : Nat) : Int)) (CALL Tryz.prog 84 #[slv l3, slv (slSub (slSub l1 0 ((IntKind.wrap .i64 (((l1.2.1 : Nat) : Int) + ((l3.2.1 : Nat) : Int)) : Int).toNat) 3) ((IntKind.wrap .i64 (n2 + ((l3.2.1 : Nat) : Int)) : Int).toNat) ((slSub l1 0 ((IntKind.wrap .i64 (((l1.2.1 : Nat) : Int) + ((l3.2.1 : Nat) : Int)) : Int).toNat) 3).2.1) 3)] (fun v8 w => ∃ b9 : Bool, v8 = .bool b9 ∧ brK (!b9) (DR (fun w => RQ (0 ≤ (IntKind.wrap .i64 (n2 + ((l3.2.1 : Nat) : Int)) : Int) ∧ (IntKind.wrap .i64 (n2 + ((l3.2.1 : Nat) : Int)) : Int) ≤ (((slSub l1 0 ((IntKind.wrap .i64 (((l1.2.1 : Nat) : Int) + ((l3.2.1 : Nat) : Int)) : Int).toNat) 3).2.1 : Nat) : Int)) (RQ (0 ≤ (n2 : Int) ∧ (n2 : Int) ≤ (((slSub l1 0 ((IntKind.wrap .i64 (((l1.2.1 : Nat) : Int) + ((l3.2.1 : Nat) : Int)) : Int).toNat) 3).2.1 : Nat) : Int)) (CPY 3 (slSub (slSub l1 0 ((IntKind.wrap .i64 (((l1.2.1 : Nat) : Int) + ((l3.2.1 : Nat) : Int)) : Int).toNat) 3) ((IntKind.wrap .i64 (n2 + ((l3.2.1 : Nat) : Int)) : Int).toNat) ((slSub l1 0 ((IntKind.wrap .i64 (((l1.2.1 : Nat) : Int) + ((l3.2.1 : Nat) : Int)) : Int).toNat) 3).2.1) 3) (slSub (slSub l1 0 ((IntKind.wrap .i64 (((l1.2.1 : Nat) : Int) + ((l3.2.1 : Nat) : Int)) : Int).toNat) 3) ((n2 : Int).toNat) ((slSub l1 0 ((IntKind.wrap .i64 (((l1.2.1 : Nat) : Int) + ((l3.2.1 : Nat) : Int)) : Int).toNat) 3).2.1) 3) (fun n10 w => RQ (0 ≤ (n2 : Int) ∧ (n2 : Int) ≤ (((slSub l1 0 ((IntKind.wrap .i64 (((l1.2.1 : Nat) : Int) + ((l3.2.1 : Nat) : Int)) : Int).toNat) 3).2.1 : Nat) : Int)) (CPY 3 (slSub (slSub l1 0 ((IntKind.wrap .i64 (((l1.2.1 : Nat) : Int) + ((l3.2.1 : Nat) : Int)) : Int).toNat) 3) ((n2 : Int).toNat) ((slSub l1 0 ((IntKind.wrap .i64 (((l1.2.1 : Nat) : Int) + ((l3.2.1 : Nat) : Int)) : Int).toNat) 3).2.1) 3) l3 (fun n11 w => k (slv (slSub l1 0 ((IntKind.wrap .i64 (((l1.2.1 : Nat) : Int) + ((l3.2.1 : Nat) : Int)) : Int).toNat) 3)) w) w)) w))) w) (RQ (0 ≤ (((l1.2.1 : Nat) : Int) : Int) ∧ (((l1.2.1 : Nat) : Int) : Int) ≤ (((slSub l1 0 ((IntKind.wrap .i64 (((l1.2.1 : Nat) : Int) + ((l3.2.1 : Nat) : Int)) : Int).toNat) 3).2.1 : Nat) : Int)) (CPY 3 (slSub (slSub l1 0 ((IntKind.wrap .i64 (((l1.2.1 : Nat) : Int) + ((l3.2.1 : Nat) : Int)) : Int).toNat) 3) ((((l1.2.1 : Nat) : Int) : Int).toNat) ((slSub l1 0 ((IntKind.wrap .i64 (((l1.2.1 : Nat) : Int) + ((l3.2.1 : Nat) : Int)) : Int).toNat) 3).2.1) 3) l3 (fun n12 w => RQ (0 ≤ (n2 : Int) ∧ (n2 : Int) ≤ (((slSub l1 0 ((IntKind.wrap .i64 (((l1.2.1 : Nat) : Int) + ((l3.2.1 : Nat) : Int)) : Int).toNat) 3).2.1 : Nat) : Int)) (CALL Tryz.prog 85 #[slv (slSub (slSub l1 0 ((IntKind.wrap .i64 (((l1.2.1 : Nat) : Int) + ((l3.2.1 : Nat) : Int)) : Int).toNat) 3) ((n2 : Int).toNat) ((slSub l1 0 ((IntKind.wrap .i64 (((l1.2.1 : Nat) : Int) + ((l3.2.1 : Nat) : Int)) : Int).toNat) 3).2.1) 3), .int .i64 ((l3.2.1 : Nat) : Int)] (fun v13 w => v13 = .tuple #[] ∧ k (slv (slSub l1 0 ((IntKind.wrap .i64 (((l1.2.1 : Nat) : Int) + ((l3.2.1 : Nat) : Int)) : Int).toNat) 3)) w) w)) w))) w))))))
theorem f52.den (l1 : Sl) (n2 : Int) (l3 : Sl) (k : Value → World → Prop) (w : World) : pc Tryz.prog none .none f52.body (retQ Tryz.prog [.tmp 6] k) (fun _ => undef) 95 [94, 93, 92] [slv l1, .int .i64 n2, slv l3] [] w = f52.b l1 n2 l3 k w := by kernel_rfl
theorem f52.okc {k : Value → World → Prop} : okC Tryz.prog none .none f52.body (retQ Tryz.prog [.tmp 6] k) :=
  Eq.mpr (by kernel_rfl : okC Tryz.prog none .none f52.body (retQ Tryz.prog [.tmp 6] k) = (True)) (trivial)
theorem f52.call {l1 : Sl} {n2 : Int} {l3 : Sl} {k : Value → World → Prop} {w : World} (h : f52.b l1 n2 l3 k w) : CALL Tryz.prog 52 #[slv l1, .int .i64 n2, slv l3] k w :=
  calls_of_pc Tryz.mixed Tryz.func52 (by kernel_rfl : Tryz.f52.body = some f52.body) (Tryz.call52 _ _) (by kernel_rfl : #[slv l1, .int .i64 n2, slv l3] ++ Array.replicate (Tryz.f52.ntmps - (#[slv l1, .int .i64 n2, slv l3] : Array Value).size) undef = (FR (fun _ => undef) 95 [94, 93, 92] [slv l1, .int .i64 n2, slv l3]).toArray) (by kernel_rfl : Tryz.f52.results.toList = [.tmp 6]) f52.okc ((f52.den l1 n2 l3 k w).symm ▸ h)

/-! (*rollcall/set.Set[int]).Remove -/
noncomputable def f53.body : Code := (Tryz.f53.body).getD .skip
def f53.J1 (n25 : Int) (k : Value → World → Prop) (w : World) : Prop :=
  k (.int .i64 n25) w
def f53.J1p (k : Value → World → Prop) : Act → World → Prop := PJ 43 [37] fun us ds w => un us fun v us => asI .i64 v fun n25 => nl us (dn ds (f53.J1 n25 k w))
def f53.Q1 (k : Value → World → Prop) : Exit → Act → World → Prop := (Exit.inBlock 0 (Exit.then (f53.J1p k) (retQ Tryz.prog [.tmp 4] k)))
def f53.L2k (Kn1 : Option Addr → Sl → Int → Int → Int → World → Prop) : Act → World → Prop := PJ 43 [42, 37, 30, 29, 28] fun us ds w => un us fun v us => asP v fun p3 => un us fun v us => asI .i64 v fun n4 => un us fun v us => asS v fun l5 => un us fun v us => asI .i64 v fun n6 => un us fun v us => asI .i64 v fun n7 => nl us (dn ds (Kn1 p3 l5 n6 n4 n7 w))
def f53.Q2 (Kn1 : Option Addr → Sl → Int → Int → Int → World → Prop) (k : Value → World → Prop) : Exit → Act → World → Prop := (Exit.then (f53.L2k Kn1) (f53.Q1 k))
def f53.J3 (p20 : Option Addr) (n21 : Int) (l22 : Sl) (n23 : Int) (n24 : Int) (Kn1 : Option Addr → Sl → Int → Int → Int → World → Prop) (k : Value → World → Prop) (w : World) : Prop :=
  Kn1 p20 l22 n23 n21 (IntKind.wrap .i64 (n24 + 1)) w
def f53.J3p (Kn1 : Option Addr → Sl → Int → Int → Int → World → Prop) (k : Value → World → Prop) : Act → World → Prop := PJ 43 [42, 37, 30, 29, 28] fun us ds w => un us fun v us => asP v fun p20 => un us fun v us => asI .i64 v fun n21 => un us fun v us => asS v fun l22 => un us fun v us => asI .i64 v fun n23 => un us fun v us => asI .i64 v fun n24 => nl us (dn ds (f53.J3 p20 n21 l22 n23 n24 Kn1 k w))
def f53.Q3 (k : Value → World → Prop) : Exit → Act → World → Prop := (retQ Tryz.prog [.tmp 4] k)
def f53.L2 (p3 : Option Addr) (l5 : Sl) (n6 : Int) (n4 : Int) (n7 : Int) (Kn1 : Option Addr → Sl → Int → Int → Int → World → Prop) (k : Value → World → Prop) (w : World) : Prop :=
  brK (decide (n7 < n6)) (IX l5 n7 1 (fun a8 => LD (Value.int .i64) a8 (fun n9 w => NN p3 (fun a10 => LD slv (Addr.add a10 0) (fun l11 w => CALL Tryz.prog 86 #[slv l11, .int .i64 n9] (fun v12 w => ∃ n13 : Int, ∃ b14 : Bool, v12 = .tuple #[.int .i64 n13, .bool b14] ∧ brK b14 (NN p3 (fun a15 => LD slv (Addr.add a15 0) (fun l16 w => CALL Tryz.prog 87 #[slv l16, .int .i64 n13, .int .i64 (IntKind.wrap .i64 (n13 + 1))] (fun v17 w => ∃ l18 : Sl, v17 = slv l18 ∧ NN p3 (fun a19 => ST (Addr.add (Addr.add a19 0) 0) (slv l18) (fun w => f53.J3 p3 (IntKind.wrap .i64 (n4 + 1)) l5 n6 n7 Kn1 k w) w)) w) w)) (f53.J3 p3 n4 l5 n6 n7 Kn1 k w)) w) w)) w)) (f53.J1 n4 k w)
def f53.L2lp (p3 : Option Addr) (l5 : Sl) (n6 : Int) (n4 : Int) (n7 : Int) (k : Value → World → Prop) (w : World) : Prop := ∀ D : Nat → Value, (Code.loop (codeAt f53.body [1, 1, 1, 0, 1, 0, 0])).wpIn (Wd none) 0 Tryz.prog (f53.Q1 k) (fr D 43 [42, 37, 30, 29, 28] [.pointer p3, .int .i64 n4, slv l5, .int .i64 n6, .int .i64 n7] []) w
def f53.L2p (k : Value → World → Prop) : Act → World → Prop := PJ 43 [42, 37, 30, 29, 28] fun us ds w => un us fun v us => asP v fun p3 => un us fun v us => asI .i64 v fun n4 => un us fun v us => asS v fun l5 => un us fun v us => asI .i64 v fun n6 => un us fun v us => asI .i64 v fun n7 => nl us (dn ds (f53.L2lp p3 l5 n6 n4 n7 k w))
def f53.L2K (p3 : Option Addr) (l5 : Sl) (n6 : Int) (I : Int → Int → World → Prop) (μ : Int → Int → World → Nat) (m : Nat) (p3' : Option Addr) (l5' : Sl) (n6' : Int) (n4' : Int) (n7' : Int) (w : World) : Prop := (p3' = p3 ∧ l5' = l5 ∧ n6' = n6) ∧ I n4' n7' w ∧ μ n4' n7' w < m
theorem f53.J3_den (D : Nat → Value) (p20 : Option Addr) (n21 : Int) (l22 : Sl) (n23 : Int) (n24 : Int) (Kn1 : Option Addr → Sl → Int → Int → Int → World → Prop) (k : Value → World → Prop) (w : World) : pc Tryz.prog none .none (codeAt f53.body [1, 1, 1, 0, 1, 0, 0, 1, 1, 1]) (f53.Q2 Kn1 k) D 43 [42, 37, 30, 29, 28] [.pointer p20, .int .i64 n21, slv l22, .int .i64 n23, .int .i64 n24] [] w = f53.J3 p20 n21 l22 n23 n24 Kn1 k w := by kernel_rfl
theorem f53.J3_okc {Kn1 : Option Addr → Sl → Int → Int → Int → World → Prop} {k : Value → World → Prop} : okC Tryz.prog none .none (codeAt f53.body [1, 1, 1, 0, 1, 0, 0, 1, 1, 1]) (f53.Q2 Kn1 k) :=
  Eq.mpr (by kernel_rfl : okC Tryz.prog none .none (codeAt f53.body [1, 1, 1, 0, 1, 0, 0, 1, 1, 1]) (f53.Q2 Kn1 k) = (True)) (trivial)
theorem f53.J3_ok {Kn1 : Option Addr → Sl → Int → Int → Int → World → Prop} {k : Value → World → Prop} : OKJ Tryz.prog none (f53.J3p Kn1 k) (codeAt f53.body [1, 1, 1, 0, 1, 0, 0, 1, 1, 1]) (f53.Q2 Kn1 k) := by
  intro a w h
  obtain ⟨D, us, ds, rfl, h0⟩ := PJ_out h
  obtain ⟨v, us, rfl, h1⟩ := un_out h0
  obtain ⟨p20, rfl, h2⟩ := asP_out h1
  obtain ⟨v, us, rfl, h3⟩ := un_out h2
  obtain ⟨n21, rfl, h4⟩ := asI_out h3
  obtain ⟨v, us, rfl, h5⟩ := un_out h4
  obtain ⟨l22, rfl, h6⟩ := asS_out h5
  obtain ⟨v, us, rfl, h7⟩ := un_out h6
  obtain ⟨n23, rfl, h8⟩ := asI_out h7
  obtain ⟨v, us, rfl, h9⟩ := un_out h8
  obtain ⟨n24, rfl, h10⟩ := asI_out h9
  obtain ⟨rfl, h11⟩ := nl_out h10
  obtain ⟨rfl, h12⟩ := dn_out h11
  rw [← f53.J3_den D p20 n21 l22 n23 n24 Kn1 k w] at h12
  exact pc_wp Tryz.mixed f53.J3_okc h12
theorem f53.J1_den (D : Nat → Value) (n25 : Int) (k : Value → World → Prop) (w : World) : pc Tryz.prog none .none (codeAt f53.body [1, 1, 1, 1]) (f53.Q3 k) D 43 [37] [.int .i64 n25] [] w = f53.J1 n25 k w := by kernel_rfl
theorem f53.J1_okc {k : Value → World → Prop} : okC Tryz.prog none .none (codeAt f53.body [1, 1, 1, 1]) (f53.Q3 k) :=
  Eq.mpr (by kernel_rfl : okC Tryz.prog none .none (codeAt f53.body [1, 1, 1, 1]) (f53.Q3 k) = (True)) (trivial)
theorem f53.J1_ok {k : Value → World → Prop} : OKJ Tryz.prog none (f53.J1p k) (codeAt f53.body [1, 1, 1, 1]) (f53.Q3 k) := by
  intro a w h
  obtain ⟨D, us, ds, rfl, h0⟩ := PJ_out h
  obtain ⟨v, us, rfl, h1⟩ := un_out h0
  obtain ⟨n25, rfl, h2⟩ := asI_out h1
  obtain ⟨rfl, h3⟩ := nl_out h2
  obtain ⟨rfl, h4⟩ := dn_out h3
  rw [← f53.J1_den D n25 k w] at h4
  exact pc_wp Tryz.mixed f53.J1_okc h4
theorem f53.L2_next {p3 : Option Addr} {l5 : Sl} {n6 : Int} {I : Int → Int → World → Prop} {μ : Int → Int → World → Nat} {m : Nat} {n4 : Int} {n7 : Int} {w : World} (hI : I n4 n7 w) (hlt : μ n4 n7 w < m) : f53.L2K p3 l5 n6 I μ m p3 l5 n6 n4 n7 w := ⟨⟨rfl, rfl, rfl⟩, hI, hlt⟩
theorem f53.L2_den (D : Nat → Value) (p3 : Option Addr) (l5 : Sl) (n6 : Int) (n4 : Int) (n7 : Int) (Kn1 : Option Addr → Sl → Int → Int → Int → World → Prop) (k : Value → World → Prop) (w : World) : pc Tryz.prog none (.seq none .none (.seq none .none (.seq (some (f53.J3p Kn1 k)) .none .none))) (codeAt f53.body [1, 1, 1, 0, 1, 0, 0]) (Exit.then (f53.L2k Kn1) (f53.Q1 k)) D 43 [42, 37, 30, 29, 28] [.pointer p3, .int .i64 n4, slv l5, .int .i64 n6, .int .i64 n7] [] w = f53.L2 p3 l5 n6 n4 n7 Kn1 k w := by kernel_rfl
theorem f53.L2_okc {Kn1 : Option Addr → Sl → Int → Int → Int → World → Prop} {k : Value → World → Prop} : okC Tryz.prog none (.seq none .none (.seq none .none (.seq (some (f53.J3p Kn1 k)) .none .none))) (codeAt f53.body [1, 1, 1, 0, 1, 0, 0]) (Exit.then (f53.L2k Kn1) (f53.Q1 k)) :=
  Eq.mpr (by kernel_rfl : okC Tryz.prog none (.seq none .none (.seq none .none (.seq (some (f53.J3p Kn1 k)) .none .none))) (codeAt f53.body [1, 1, 1, 0, 1, 0, 0]) (Exit.then (f53.L2k Kn1) (f53.Q1 k)) = (((True) ∧ (((True) ∧ (((True) ∧ OKJ Tryz.prog none (f53.J3p Kn1 k) (codeAt f53.body [1, 1, 1, 0, 1, 0, 0, 1, 1, 1]) (f53.Q2 Kn1 k)))))))) (⟨trivial, ⟨trivial, ⟨trivial, f53.J3_ok⟩⟩⟩)
theorem f53.L2_ok {k : Value → World → Prop} : OKJ Tryz.prog none (f53.L2p k) (codeAt f53.body [1, 1, 1, 0, 1, 0]) (f53.Q1 k) := by
  intro a w h
  obtain ⟨D, us, ds, rfl, h0⟩ := PJ_out h
  obtain ⟨v, us, rfl, h1⟩ := un_out h0
  obtain ⟨p3, rfl, h2⟩ := asP_out h1
  obtain ⟨v, us, rfl, h3⟩ := un_out h2
  obtain ⟨n4, rfl, h4⟩ := asI_out h3
  obtain ⟨v, us, rfl, h5⟩ := un_out h4
  obtain ⟨l5, rfl, h6⟩ := asS_out h5
  obtain ⟨v, us, rfl, h7⟩ := un_out h6
  obtain ⟨n6, rfl, h8⟩ := asI_out h7
  obtain ⟨v, us, rfl, h9⟩ := un_out h8
  obtain ⟨n7, rfl, h10⟩ := asI_out h9
  obtain ⟨rfl, h11⟩ := nl_out h10
  obtain ⟨rfl, h12⟩ := dn_out h11
  rw [show (codeAt f53.body [1, 1, 1, 0, 1, 0]) = Code.loop (codeAt f53.body [1, 1, 1, 0, 1, 0, 0]) by kernel_rfl]
  exact h12 D
theorem f53.L2_rule {p3 : Option Addr} {l5 : Sl} {n6 : Int} {k : Value → World → Prop} (I : Int → Int → World → Prop) (μ : Int → Int → World → Nat) {n4 : Int} {n7 : Int} {w : World} (h0 : I n4 n7 w)
    (hr : ∀ (n4 : Int) (n7 : Int) (w : World), I n4 n7 w → f53.L2 p3 l5 n6 n4 n7 (f53.L2K p3 l5 n6 I μ (μ n4 n7 w)) k w) : f53.L2lp p3 l5 n6 n4 n7 k w := by
  intro D0
  refine loop_ind (P := Tryz.prog) (fun m a w => ∃ n4 : Int, ∃ n7 : Int, ∃ D : Nat → Value, a = fr D 43 [42, 37, 30, 29, 28] [.pointer p3, .int .i64 n4, slv l5, .int .i64 n6, .int .i64 n7] [] ∧ I n4 n7 w ∧ μ n4 n7 w = m) ?_ (μ n4 n7 w) ⟨_, _, D0, rfl, h0, rfl⟩
  rintro m a w ⟨n4, n7, D, rfl, hI, rfl⟩
  have h := hr n4 n7 w hI
  rw [← f53.L2_den D p3 l5 n6 n4 n7 (f53.L2K p3 l5 n6 I μ (μ n4 n7 w)) k w] at h
  refine then_mono (pc_wp Tryz.mixed f53.L2_okc h) ?_
  clear h
  intro a w h
  obtain ⟨D, us, ds, rfl, h0⟩ := PJ_out h
  obtain ⟨v, us, rfl, h1⟩ := un_out h0
  obtain ⟨p3', rfl, h2⟩ := asP_out h1
  obtain ⟨v, us, rfl, h3⟩ := un_out h2
  obtain ⟨n4', rfl, h4⟩ := asI_out h3
  obtain ⟨v, us, rfl, h5⟩ := un_out h4
  obtain ⟨l5', rfl, h6⟩ := asS_out h5
  obtain ⟨v, us, rfl, h7⟩ := un_out h6
  obtain ⟨n6', rfl, h8⟩ := asI_out h7
  obtain ⟨v, us, rfl, h9⟩ := un_out h8
  obtain ⟨n7', rfl, h10⟩ := asI_out h9
  obtain ⟨rfl, h11⟩ := nl_out h10
  obtain ⟨rfl, h12⟩ := dn_out h11
  obtain ⟨⟨rfl, rfl, rfl⟩, hI, hlt⟩ := h12
  exact ⟨_, hlt, _, _, D, rfl, hI, rfl⟩
def f53.b (p1 : Option Addr) (l2 : Sl) (k : Value → World → Prop) (w : World) : Prop :=
  brK p1.isNone (k (.int .i64 0) w) (f53.L2lp p1 l2 ((l2.2.1 : Nat) : Int) 0 0 k w)
theorem f53.den (p1 : Option Addr) (l2 : Sl) (k : Value → World → Prop) (w : World) : pc Tryz.prog none (.seq none .none (.seq none .none (.seq none .none (.seq (some (f53.J1p k)) (.seq none .none (.block (.at (f53.L2p k)))) .none)))) f53.body (retQ Tryz.prog [.tmp 4] k) (fun _ => undef) 43 [42, 41] [.pointer p1, slv l2] [] w = f53.b p1 l2 k w := by kernel_rfl
theorem f53.okc {k : Value → World → Prop} : okC Tryz.prog none (.seq none .none (.seq none .none (.seq none .none (.seq (some (f53.J1p k)) (.seq none .none (.block (.at (f53.L2p k)))) .none)))) f53.body (retQ Tryz.prog [.tmp 4] k) :=
  Eq.mpr (by kernel_rfl : okC Tryz.prog none (.seq none .none (.seq none .none (.seq none .none (.seq (some (f53.J1p k)) (.seq none .none (.block (.at (f53.L2p k)))) .none)))) f53.body (retQ Tryz.prog [.tmp 4] k) = (((True) ∧ (((True) ∧ (((True) ∧ (((((True) ∧ (OKJ Tryz.prog none (f53.L2p k) (codeAt f53.body [1, 1, 1, 0, 1, 0]) (f53.Q1 k)))) ∧ OKJ Tryz.prog none (f53.J1p k) (codeAt f53.body [1, 1, 1, 1]) (f53.Q3 k)))))))))) (⟨trivial, ⟨trivial, ⟨trivial, ⟨⟨trivial, f53.L2_ok⟩, f53.J1_ok⟩⟩⟩⟩)
theorem f53.call {p1 : Option Addr} {l2 : Sl} {k : Value → World → Prop} {w : World} (h : f53.b p1 l2 k w) : CALL Tryz.prog 53 #[.pointer p1, slv l2] k w :=
  calls_of_pc Tryz.mixed Tryz.func53 (by kernel_rfl : Tryz.f53.body = some f53.body) (Tryz.call53 _ _) (by kernel_rfl : #[.pointer p1, slv l2] ++ Array.replicate (Tryz.f53.ntmps - (#[.pointer p1, slv l2] : Array Value).size) undef = (FR (fun _ => undef) 43 [42, 41] [.pointer p1, slv l2]).toArray) (by kernel_rfl : Tryz.f53.results.toList = [.tmp 4]) f53.okc ((f53.den p1 l2 k w).symm ▸ h)

/-! rollcall/valid.Clean -/
noncomputable def f54.body : Code := (Tryz.f54.body).getD .skip
def f54.J1 (q24 : Nat) (k : Value → World → Prop) (w : World) : Prop :=
  CALL Tryz.prog 91 #[.pointer (some ⟨q24, 0, none⟩)] (fun v25 w => ∃ s26 : ByteArray, v25 = .string s26 ∧ k (.string s26) w) w
def f54.J1p (k : Value → World → Prop) : Act → World → Prop := PJ 32 [25] fun us ds w => un us fun v us => asBox v fun q24 => nl us (dn ds (f54.J1 q24 k w))
def f54.Q1 (k : Value → World → Prop) : Exit → Act → World → Prop := (Exit.inBlock 0 (Exit.then (f54.J1p k) (retQ Tryz.prog [.tmp 4] k)))
def f54.L2k (Kn1 : ByteArray → Int → Nat → Nat → Int → World → Prop) : Act → World → Prop := PJ 32 [31, 30, 26, 25, 24] fun us ds w => un us fun v us => asStr v fun s7 => un us fun v us => asI .i64 v fun n8 => un us fun v us => asBox v fun q9 => un us fun v us => asBox v fun q10 => un us fun v us => asI .i64 v fun n11 => nl us (dn ds (Kn1 s7 n8 q9 q10 n11 w))
def f54.Q2 (Kn1 : ByteArray → Int → Nat → Nat → Int → World → Prop) (k : Value → World → Prop) : Exit → Act → World → Prop := (Exit.then (f54.L2k Kn1) (f54.Q1 k))
def f54.J3 (s19 : ByteArray) (n20 : Int) (q21 : Nat) (q22 : Nat) (n23 : Int) (Kn1 : ByteArray → Int → Nat → Nat → Int → World → Prop) (k : Value → World → Prop) (w : World) : Prop :=
  Kn1 s19 n20 q21 q22 (IntKind.wrap .i64 (n23 + 1)) w
def f54.J3p (Kn1 : ByteArray → Int → Nat → Nat → Int → World → Prop) (k : Value → World → Prop) : Act → World → Prop := PJ 32 [31, 30, 26, 25, 24] fun us ds w => un us fun v us => asStr v fun s19 => un us fun v us => asI .i64 v fun n20 => un us fun v us => asBox v fun q21 => un us fun v us => asBox v fun q22 => un us fun v us => asI .i64 v fun n23 => nl us (dn ds (f54.J3 s19 n20 q21 q22 n23 Kn1 k w))
def f54.Q3 (k : Value → World → Prop) : Exit → Act → World → Prop := (retQ Tryz.prog [.tmp 4] k)
def f54.L2 (s7 : ByteArray) (n8 : Int) (q9 : Nat) (q10 : Nat) (n11 : Int) (Kn1 : ByteArray → Int → Nat → Nat → Int → World → Prop) (k : Value → World → Prop) (w : World) : Prop :=
  brK (decide (n11 < ((s7.size : Nat) : Int))) (CALL Tryz.prog 89 #[.pointer (some ⟨q10, 0, none⟩)] (fun v12 w => ∃ n13 : Int, v12 = .int .i64 n13 ∧ brK (decide (n13 < n8)) (SIX s7 n11 (fun c14 => RQ (0 ≤ (c14 : Int) ∧ (c14 : Int) < ((256 : Nat) : Int)) (LD (Value.int .u16) (Addr.add ⟨q9, 0, none⟩ (Int.toNat c14 * 1)) (fun n15 w => brK ((intBit .and .u16 n15 64) != 0) (SIX s7 n11 (fun c16 => CALL Tryz.prog 90 #[.pointer (some ⟨q10, 0, none⟩), .int .u8 c16] (fun v17 w => ∃ v18 : Value, v17 = v18 ∧ f54.J3 s7 n8 q9 q10 n11 Kn1 k w) w)) (f54.J3 s7 n8 q9 q10 n11 Kn1 k w)) w))) (f54.J1 q10 k w)) w) (f54.J1 q10 k w)
def f54.L2lp (s7 : ByteArray) (n8 : Int) (q9 : Nat) (q10 : Nat) (n11 : Int) (k : Value → World → Prop) (w : World) : Prop := ∀ D : Nat → Value, (Code.loop (codeAt f54.body [1, 1, 1, 0, 1, 0, 0])).wpIn (Wd none) 0 Tryz.prog (f54.Q1 k) (fr D 32 [31, 30, 26, 25, 24] [.string s7, .int .i64 n8, .pointer (some ⟨q9, 0, none⟩), .pointer (some ⟨q10, 0, none⟩), .int .i64 n11] []) w
def f54.L2p (k : Value → World → Prop) : Act → World → Prop := PJ 32 [31, 30, 26, 25, 24] fun us ds w => un us fun v us => asStr v fun s7 => un us fun v us => asI .i64 v fun n8 => un us fun v us => asBox v fun q9 => un us fun v us => asBox v fun q10 => un us fun v us => asI .i64 v fun n11 => nl us (dn ds (f54.L2lp s7 n8 q9 q10 n11 k w))
def f54.L2K (s7 : ByteArray) (n8 : Int) (q9 : Nat) (q10 : Nat) (I : Int → World → Prop) (μ : Int → World → Nat) (m : Nat) (s7' : ByteArray) (n8' : Int) (q9' : Nat) (q10' : Nat) (n11' : Int) (w : World) : Prop := (s7' = s7 ∧ n8' = n8 ∧ q9' = q9 ∧ q10' = q10) ∧ I n11' w ∧ μ n11' w < m
theorem f54.J3_den (D : Nat → Value) (s19 : ByteArray) (n20 : Int) (q21 : Nat) (q22 : Nat) (n23 : Int) (Kn1 : ByteArray → Int → Nat → Nat → Int → World → Prop) (k : Value → World → Prop) (w : World) : pc Tryz.prog none .none (codeAt f54.body [1, 1, 1, 0, 1, 0, 0, 1, 1]) (f54.Q2 Kn1 k) D 32 [31, 30, 26, 25, 24] [.string s19, .int .i64 n20, .pointer (some ⟨q21, 0, none⟩), .pointer (some ⟨q22, 0, none⟩), .int .i64 n23] [] w = f54.J3 s19 n20 q21 q22 n23 Kn1 k w := by kernel_rfl
theorem f54.J3_okc {Kn1 : ByteArray → Int → Nat → Nat → Int → World → Prop} {k : Value → World → Prop} : okC Tryz.prog none .none (codeAt f54.body [1, 1, 1, 0, 1, 0, 0, 1, 1]) (f54.Q2 Kn1 k) :=
  Eq.mpr (by kernel_rfl : okC Tryz.prog none .none (codeAt f54.body [1, 1, 1, 0, 1, 0, 0, 1, 1]) (f54.Q2 Kn1 k) = (True)) (trivial)
theorem f54.J3_ok {Kn1 : ByteArray → Int → Nat → Nat → Int → World → Prop} {k : Value → World → Prop} : OKJ Tryz.prog none (f54.J3p Kn1 k) (codeAt f54.body [1, 1, 1, 0, 1, 0, 0, 1, 1]) (f54.Q2 Kn1 k) := by
  intro a w h
  obtain ⟨D, us, ds, rfl, h0⟩ := PJ_out h
  obtain ⟨v, us, rfl, h1⟩ := un_out h0
  obtain ⟨s19, rfl, h2⟩ := asStr_out h1
  obtain ⟨v, us, rfl, h3⟩ := un_out h2
  obtain ⟨n20, rfl, h4⟩ := asI_out h3
  obtain ⟨v, us, rfl, h5⟩ := un_out h4
  obtain ⟨q21, rfl, h6⟩ := asBox_out h5
  obtain ⟨v, us, rfl, h7⟩ := un_out h6
  obtain ⟨q22, rfl, h8⟩ := asBox_out h7
  obtain ⟨v, us, rfl, h9⟩ := un_out h8
  obtain ⟨n23, rfl, h10⟩ := asI_out h9
  obtain ⟨rfl, h11⟩ := nl_out h10
  obtain ⟨rfl, h12⟩ := dn_out h11
  rw [← f54.J3_den D s19 n20 q21 q22 n23 Kn1 k w] at h12
  exact pc_wp Tryz.mixed f54.J3_okc h12
theorem f54.J1_den (D : Nat → Value) (q24 : Nat) (k : Value → World → Prop) (w : World) : pc Tryz.prog none .none (codeAt f54.body [1, 1, 1, 1]) (f54.Q3 k) D 32 [25] [.pointer (some ⟨q24, 0, none⟩)] [] w = f54.J1 q24 k w := by kernel_rfl
theorem f54.J1_okc {k : Value → World → Prop} : okC Tryz.prog none .none (codeAt f54.body [1, 1, 1, 1]) (f54.Q3 k) :=
  Eq.mpr (by kernel_rfl : okC Tryz.prog none .none (codeAt f54.body [1, 1, 1, 1]) (f54.Q3 k) = (True)) (trivial)
theorem f54.J1_ok {k : Value → World → Prop} : OKJ Tryz.prog none (f54.J1p k) (codeAt f54.body [1, 1, 1, 1]) (f54.Q3 k) := by
  intro a w h
  obtain ⟨D, us, ds, rfl, h0⟩ := PJ_out h
  obtain ⟨v, us, rfl, h1⟩ := un_out h0
  obtain ⟨q24, rfl, h2⟩ := asBox_out h1
  obtain ⟨rfl, h3⟩ := nl_out h2
  obtain ⟨rfl, h4⟩ := dn_out h3
  rw [← f54.J1_den D q24 k w] at h4
  exact pc_wp Tryz.mixed f54.J1_okc h4
theorem f54.L2_next {s7 : ByteArray} {n8 : Int} {q9 : Nat} {q10 : Nat} {I : Int → World → Prop} {μ : Int → World → Nat} {m : Nat} {n11 : Int} {w : World} (hI : I n11 w) (hlt : μ n11 w < m) : f54.L2K s7 n8 q9 q10 I μ m s7 n8 q9 q10 n11 w := ⟨⟨rfl, rfl, rfl, rfl⟩, hI, hlt⟩
theorem f54.L2_den (D : Nat → Value) (s7 : ByteArray) (n8 : Int) (q9 : Nat) (q10 : Nat) (n11 : Int) (Kn1 : ByteArray → Int → Nat → Nat → Int → World → Prop) (k : Value → World → Prop) (w : World) : pc Tryz.prog none (.seq none .none (.seq (some (f54.J3p Kn1 k)) .none .none)) (codeAt f54.body [1, 1, 1, 0, 1, 0, 0]) (Exit.then (f54.L2k Kn1) (f54.Q1 k)) D 32 [31, 30, 26, 25, 24] [.string s7, .int .i64 n8, .pointer (some ⟨q9, 0, none⟩), .pointer (some ⟨q10, 0, none⟩), .int .i64 n11] [] w = f54.L2 s7 n8 q9 q10 n11 Kn1 k w := by kernel_rfl
theorem f54.L2_okc {Kn1 : ByteArray → Int → Nat → Nat → Int → World → Prop} {k : Value → World → Prop} : okC Tryz.prog none (.seq none .none (.seq (some (f54.J3p Kn1 k)) .none .none)) (codeAt f54.body [1, 1, 1, 0, 1, 0, 0]) (Exit.then (f54.L2k Kn1) (f54.Q1 k)) :=
  Eq.mpr (by kernel_rfl : okC Tryz.prog none (.seq none .none (.seq (some (f54.J3p Kn1 k)) .none .none)) (codeAt f54.body [1, 1, 1, 0, 1, 0, 0]) (Exit.then (f54.L2k Kn1) (f54.Q1 k)) = (((True) ∧ (((True) ∧ OKJ Tryz.prog none (f54.J3p Kn1 k) (codeAt f54.body [1, 1, 1, 0, 1, 0, 0, 1, 1]) (f54.Q2 Kn1 k)))))) (⟨trivial, ⟨trivial, f54.J3_ok⟩⟩)
theorem f54.L2_ok {k : Value → World → Prop} : OKJ Tryz.prog none (f54.L2p k) (codeAt f54.body [1, 1, 1, 0, 1, 0]) (f54.Q1 k) := by
  intro a w h
  obtain ⟨D, us, ds, rfl, h0⟩ := PJ_out h
  obtain ⟨v, us, rfl, h1⟩ := un_out h0
  obtain ⟨s7, rfl, h2⟩ := asStr_out h1
  obtain ⟨v, us, rfl, h3⟩ := un_out h2
  obtain ⟨n8, rfl, h4⟩ := asI_out h3
  obtain ⟨v, us, rfl, h5⟩ := un_out h4
  obtain ⟨q9, rfl, h6⟩ := asBox_out h5
  obtain ⟨v, us, rfl, h7⟩ := un_out h6
  obtain ⟨q10, rfl, h8⟩ := asBox_out h7
  obtain ⟨v, us, rfl, h9⟩ := un_out h8
  obtain ⟨n11, rfl, h10⟩ := asI_out h9
  obtain ⟨rfl, h11⟩ := nl_out h10
  obtain ⟨rfl, h12⟩ := dn_out h11
  rw [show (codeAt f54.body [1, 1, 1, 0, 1, 0]) = Code.loop (codeAt f54.body [1, 1, 1, 0, 1, 0, 0]) by kernel_rfl]
  exact h12 D
theorem f54.L2_rule {s7 : ByteArray} {n8 : Int} {q9 : Nat} {q10 : Nat} {k : Value → World → Prop} (I : Int → World → Prop) (μ : Int → World → Nat) {n11 : Int} {w : World} (h0 : I n11 w)
    (hr : ∀ (n11 : Int) (w : World), I n11 w → f54.L2 s7 n8 q9 q10 n11 (f54.L2K s7 n8 q9 q10 I μ (μ n11 w)) k w) : f54.L2lp s7 n8 q9 q10 n11 k w := by
  intro D0
  refine loop_ind (P := Tryz.prog) (fun m a w => ∃ n11 : Int, ∃ D : Nat → Value, a = fr D 32 [31, 30, 26, 25, 24] [.string s7, .int .i64 n8, .pointer (some ⟨q9, 0, none⟩), .pointer (some ⟨q10, 0, none⟩), .int .i64 n11] [] ∧ I n11 w ∧ μ n11 w = m) ?_ (μ n11 w) ⟨_, D0, rfl, h0, rfl⟩
  rintro m a w ⟨n11, D, rfl, hI, rfl⟩
  have h := hr n11 w hI
  rw [← f54.L2_den D s7 n8 q9 q10 n11 (f54.L2K s7 n8 q9 q10 I μ (μ n11 w)) k w] at h
  refine then_mono (pc_wp Tryz.mixed f54.L2_okc h) ?_
  clear h
  intro a w h
  obtain ⟨D, us, ds, rfl, h0⟩ := PJ_out h
  obtain ⟨v, us, rfl, h1⟩ := un_out h0
  obtain ⟨s7', rfl, h2⟩ := asStr_out h1
  obtain ⟨v, us, rfl, h3⟩ := un_out h2
  obtain ⟨n8', rfl, h4⟩ := asI_out h3
  obtain ⟨v, us, rfl, h5⟩ := un_out h4
  obtain ⟨q9', rfl, h6⟩ := asBox_out h5
  obtain ⟨v, us, rfl, h7⟩ := un_out h6
  obtain ⟨q10', rfl, h8⟩ := asBox_out h7
  obtain ⟨v, us, rfl, h9⟩ := un_out h8
  obtain ⟨n11', rfl, h10⟩ := asI_out h9
  obtain ⟨rfl, h11⟩ := nl_out h10
  obtain ⟨rfl, h12⟩ := dn_out h11
  obtain ⟨⟨rfl, rfl, rfl, rfl⟩, hI, hlt⟩ := h12
  exact ⟨_, hlt, _, D, rfl, hI, rfl⟩
def f54.b (s1 : ByteArray) (n2 : Int) (k : Value → World → Prop) (w : World) : Prop :=
  CALL Tryz.prog 88 #[] (fun v3 w => ∃ c4 : Array Value, v3 = .agg c4 ∧ AL (.cells (Array.replicate 256 (.int .u16 0)) 117) (fun q5 w => RQ (Array.size c4 = 256) (stAll ⟨q5, 0, none⟩ (fun w => AL (.cells #[.pointer none, slv (none, 0, 0)] 121) (fun q6 w => f54.L2lp s1 n2 q5 q6 0 k w) w) (Array.toList c4) 0 w)) w) w
theorem f54.den (s1 : ByteArray) (n2 : Int) (k : Value → World → Prop) (w : World) : pc Tryz.prog none (.seq none .none (.seq none .none (.seq none .none (.seq (some (f54.J1p k)) (.seq none .none (.block (.at (f54.L2p k)))) .none)))) f54.body (retQ Tryz.prog [.tmp 4] k) (fun _ => undef) 32 [31, 30] [.string s1, .int .i64 n2] [] w = f54.b s1 n2 k w := by kernel_rfl
theorem f54.okc {k : Value → World → Prop} : okC Tryz.prog none (.seq none .none (.seq none .none (.seq none .none (.seq (some (f54.J1p k)) (.seq none .none (.block (.at (f54.L2p k)))) .none)))) f54.body (retQ Tryz.prog [.tmp 4] k) :=
  Eq.mpr (by kernel_rfl : okC Tryz.prog none (.seq none .none (.seq none .none (.seq none .none (.seq (some (f54.J1p k)) (.seq none .none (.block (.at (f54.L2p k)))) .none)))) f54.body (retQ Tryz.prog [.tmp 4] k) = (((True) ∧ (((True) ∧ (((True) ∧ (((((True) ∧ (OKJ Tryz.prog none (f54.L2p k) (codeAt f54.body [1, 1, 1, 0, 1, 0]) (f54.Q1 k)))) ∧ OKJ Tryz.prog none (f54.J1p k) (codeAt f54.body [1, 1, 1, 1]) (f54.Q3 k)))))))))) (⟨trivial, ⟨trivial, ⟨trivial, ⟨⟨trivial, f54.L2_ok⟩, f54.J1_ok⟩⟩⟩⟩)
theorem f54.call {s1 : ByteArray} {n2 : Int} {k : Value → World → Prop} {w : World} (h : f54.b s1 n2 k w) : CALL Tryz.prog 54 #[.string s1, .int .i64 n2] k w :=
  calls_of_pc Tryz.mixed Tryz.func54 (by kernel_rfl : Tryz.f54.body = some f54.body) (Tryz.call54 _ _) (by kernel_rfl : #[.string s1, .int .i64 n2] ++ Array.replicate (Tryz.f54.ntmps - (#[.string s1, .int .i64 n2] : Array Value).size) undef = (FR (fun _ => undef) 32 [31, 30] [.string s1, .int .i64 n2]).toArray) (by kernel_rfl : Tryz.f54.results.toList = [.tmp 4]) f54.okc ((f54.den s1 n2 k w).symm ▸ h)

/-! (*rollcall/set.Set[int]).Add -/
noncomputable def f55.body : Code := (Tryz.f55.body).getD .skip
def f55.J1 (n26 : Int) (k : Value → World → Prop) (w : World) : Prop :=
  k (.int .i64 n26) w
def f55.J1p (k : Value → World → Prop) : Act → World → Prop := PJ 44 [38] fun us ds w => un us fun v us => asI .i64 v fun n26 => nl us (dn ds (f55.J1 n26 k w))
def f55.Q1 (k : Value → World → Prop) : Exit → Act → World → Prop := (Exit.inBlock 0 (Exit.then (f55.J1p k) (retQ Tryz.prog [.tmp 4] k)))
def f55.L2k (Kn1 : Option Addr → Sl → Int → Int → Int → World → Prop) : Act → World → Prop := PJ 44 [43, 38, 31, 30, 29] fun us ds w => un us fun v us => asP v fun p3 => un us fun v us => asI .i64 v fun n4 => un us fun v us => asS v fun l5 => un us fun v us => asI .i64 v fun n6 => un us fun v us => asI .i64 v fun n7 => nl us (dn ds (Kn1 p3 l5 n6 n4 n7 w))
def f55.Q2 (Kn1 : Option Addr → Sl → Int → Int → Int → World → Prop) (k : Value → World → Prop) : Exit → Act → World → Prop := (Exit.then (f55.L2k Kn1) (f55.Q1 k))
def f55.J3 (p21 : Option Addr) (n22 : Int) (l23 : Sl) (n24 : Int) (n25 : Int) (Kn1 : Option Addr → Sl → Int → Int → Int → World → Prop) (k : Value → World → Prop) (w : World) : Prop :=
  Kn1 p21 l23 n24 n22 (IntKind.wrap .i64 (n25 + 1)) w
def f55.J3p (Kn1 : Option Addr → Sl → Int → Int → Int → World → Prop) (k : Value → World → Prop) : Act → World → Prop := PJ 44 [43, 38, 31, 30, 29] fun us ds w => un us fun v us => asP v fun p21 => un us fun v us => asI .i64 v fun n22 => un us fun v us => asS v fun l23 => un us fun v us => asI .i64 v fun n24 => un us fun v us => asI .i64 v fun n25 => nl us (dn ds (f55.J3 p21 n22 l23 n24 n25 Kn1 k w))
def f55.Q3 (k : Value → World → Prop) : Exit → Act → World → Prop := (retQ Tryz.prog [.tmp 4] k)
def f55.L2 (p3 : Option Addr) (l5 : Sl) (n6 : Int) (n4 : Int) (n7 : Int) (Kn1 : Option Addr → Sl → Int → Int → Int → World → Prop) (k : Value → World → Prop) (w : World) : Prop :=
  brK (decide (n7 < n6)) (IX l5 n7 1 (fun a8 => LD (Value.int .i64) a8 (fun n9 w => NN p3 (fun a10 => LD slv (Addr.add a10 0) (fun l11 w => CALL Tryz.prog 86 #[slv l11, .int .i64 n9] (fun v12 w => ∃ n13 : Int, ∃ b14 : Bool, v12 = .tuple #[.int .i64 n13, .bool b14] ∧ brK (!b14) (NN p3 (fun a15 => LD slv (Addr.add a15 0) (fun l16 w => AL (.cells #[.int .i64 n9] 3) (fun q17 w => CALL Tryz.prog 92 #[slv l16, .int .i64 n13, slv ((some ⟨q17, 0, none⟩), 1, 1)] (fun v18 w => ∃ l19 : Sl, v18 = slv l19 ∧ NN p3 (fun a20 => ST (Addr.add (Addr.add a20 0) 0) (slv l19) (fun w => f55.J3 p3 (IntKind.wrap .i64 (n4 + 1)) l5 n6 n7 Kn1 k w) w)) w) w) w)) (f55.J3 p3 n4 l5 n6 n7 Kn1 k w)) w) w)) w)) (f55.J1 n4 k w)
def f55.L2lp (p3 : Option Addr) (l5 : Sl) (n6 : Int) (n4 : Int) (n7 : Int) (k : Value → World → Prop) (w : World) : Prop := ∀ D : Nat → Value, (Code.loop (codeAt f55.body [1, 1, 1, 0, 1, 0, 0])).wpIn (Wd none) 0 Tryz.prog (f55.Q1 k) (fr D 44 [43, 38, 31, 30, 29] [.pointer p3, .int .i64 n4, slv l5, .int .i64 n6, .int .i64 n7] []) w
def f55.L2p (k : Value → World → Prop) : Act → World → Prop := PJ 44 [43, 38, 31, 30, 29] fun us ds w => un us fun v us => asP v fun p3 => un us fun v us => asI .i64 v fun n4 => un us fun v us => asS v fun l5 => un us fun v us => asI .i64 v fun n6 => un us fun v us => asI .i64 v fun n7 => nl us (dn ds (f55.L2lp p3 l5 n6 n4 n7 k w))
def f55.L2K (p3 : Option Addr) (l5 : Sl) (n6 : Int) (I : Int → Int → World → Prop) (μ : Int → Int → World → Nat) (m : Nat) (p3' : Option Addr) (l5' : Sl) (n6' : Int) (n4' : Int) (n7' : Int) (w : World) : Prop := (p3' = p3 ∧ l5' = l5 ∧ n6' = n6) ∧ I n4' n7' w ∧ μ n4' n7' w < m
theorem f55.J3_den (D : Nat → Value) (p21 : Option Addr) (n22 : Int) (l23 : Sl) (n24 : Int) (n25 : Int) (Kn1 : Option Addr → Sl → Int → Int → Int → World → Prop) (k : Value → World → Prop) (w : World) : pc Tryz.prog none .none (codeAt f55.body [1, 1, 1, 0, 1, 0, 0, 1, 1, 1]) (f55.Q2 Kn1 k) D 44 [43, 38, 31, 30, 29] [.pointer p21, .int .i64 n22, slv l23, .int .i64 n24, .int .i64 n25] [] w = f55.J3 p21 n22 l23 n24 n25 Kn1 k w := by kernel_rfl
theorem f55.J3_okc {Kn1 : Option Addr → Sl → Int → Int → Int → World → Prop} {k : Value → World → Prop} : okC Tryz.prog none .none (codeAt f55.body [1, 1, 1, 0, 1, 0, 0, 1, 1, 1]) (f55.Q2 Kn1 k) :=
  Eq.mpr (by kernel_rfl : okC Tryz.prog none .none (codeAt f55.body [1, 1, 1, 0, 1, 0, 0, 1, 1, 1]) (f55.Q2 Kn1 k) = (True)) (trivial)
theorem f55.J3_ok {Kn1 : Option Addr → Sl → Int → Int → Int → World → Prop} {k : Value → World → Prop} : OKJ Tryz.prog none (f55.J3p Kn1 k) (codeAt f55.body [1, 1, 1, 0, 1, 0, 0, 1, 1, 1]) (f55.Q2 Kn1 k) := by
  intro a w h
  obtain ⟨D, us, ds, rfl, h0⟩ := PJ_out h
  obtain ⟨v, us, rfl, h1⟩ := un_out h0
  obtain ⟨p21, rfl, h2⟩ := asP_out h1
  obtain ⟨v, us, rfl, h3⟩ := un_out h2
  obtain ⟨n22, rfl, h4⟩ := asI_out h3
  obtain ⟨v, us, rfl, h5⟩ := un_out h4
  obtain ⟨l23, rfl, h6⟩ := asS_out h5
  obtain ⟨v, us, rfl, h7⟩ := un_out h6
  obtain ⟨n24, rfl, h8⟩ := asI_out h7
  obtain ⟨v, us, rfl, h9⟩ := un_out h8
  obtain ⟨n25, rfl, h10⟩ := asI_out h9
  obtain ⟨rfl, h11⟩ := nl_out h10
  obtain ⟨rfl, h12⟩ := dn_out h11
  rw [← f55.J3_den D p21 n22 l23 n24 n25 Kn1 k w] at h12
  exact pc_wp Tryz.mixed f55.J3_okc h12
theorem f55.J1_den (D : Nat → Value) (n26 : Int) (k : Value → World → Prop) (w : World) : pc Tryz.prog none .none (codeAt f55.body [1, 1, 1, 1]) (f55.Q3 k) D 44 [38] [.int .i64 n26] [] w = f55.J1 n26 k w := by kernel_rfl
theorem f55.J1_okc {k : Value → World → Prop} : okC Tryz.prog none .none (codeAt f55.body [1, 1, 1, 1]) (f55.Q3 k) :=
  Eq.mpr (by kernel_rfl : okC Tryz.prog none .none (codeAt f55.body [1, 1, 1, 1]) (f55.Q3 k) = (True)) (trivial)
theorem f55.J1_ok {k : Value → World → Prop} : OKJ Tryz.prog none (f55.J1p k) (codeAt f55.body [1, 1, 1, 1]) (f55.Q3 k) := by
  intro a w h
  obtain ⟨D, us, ds, rfl, h0⟩ := PJ_out h
  obtain ⟨v, us, rfl, h1⟩ := un_out h0
  obtain ⟨n26, rfl, h2⟩ := asI_out h1
  obtain ⟨rfl, h3⟩ := nl_out h2
  obtain ⟨rfl, h4⟩ := dn_out h3
  rw [← f55.J1_den D n26 k w] at h4
  exact pc_wp Tryz.mixed f55.J1_okc h4
theorem f55.L2_next {p3 : Option Addr} {l5 : Sl} {n6 : Int} {I : Int → Int → World → Prop} {μ : Int → Int → World → Nat} {m : Nat} {n4 : Int} {n7 : Int} {w : World} (hI : I n4 n7 w) (hlt : μ n4 n7 w < m) : f55.L2K p3 l5 n6 I μ m p3 l5 n6 n4 n7 w := ⟨⟨rfl, rfl, rfl⟩, hI, hlt⟩
theorem f55.L2_den (D : Nat → Value) (p3 : Option Addr) (l5 : Sl) (n6 : Int) (n4 : Int) (n7 : Int) (Kn1 : Option Addr → Sl → Int → Int → Int → World → Prop) (k : Value → World → Prop) (w : World) : pc Tryz.prog none (.seq none .none (.seq none .none (.seq (some (f55.J3p Kn1 k)) .none .none))) (codeAt f55.body [1, 1, 1, 0, 1, 0, 0]) (Exit.then (f55.L2k Kn1) (f55.Q1 k)) D 44 [43, 38, 31, 30, 29] [.pointer p3, .int .i64 n4, slv l5, .int .i64 n6, .int .i64 n7] [] w = f55.L2 p3 l5 n6 n4 n7 Kn1 k w := by kernel_rfl
theorem f55.L2_okc {Kn1 : Option Addr → Sl → Int → Int → Int → World → Prop} {k : Value → World → Prop} : okC Tryz.prog none (.seq none .none (.seq none .none (.seq (some (f55.J3p Kn1 k)) .none .none))) (codeAt f55.body [1, 1, 1, 0, 1, 0, 0]) (Exit.then (f55.L2k Kn1) (f55.Q1 k)) :=
  Eq.mpr (by kernel_rfl : okC Tryz.prog none (.seq none .none (.seq none .none (.seq (some (f55.J3p Kn1 k)) .none .none))) (codeAt f55.body [1, 1, 1, 0, 1, 0, 0]) (Exit.then (f55.L2k Kn1) (f55.Q1 k)) = (((True) ∧ (((True) ∧ (((True) ∧ OKJ Tryz.prog none (f55.J3p Kn1 k) (codeAt f55.body [1, 1, 1, 0, 1, 0, 0, 1, 1, 1]) (f55.Q2 Kn1 k)))))))) (⟨trivial, ⟨trivial, ⟨trivial, f55.J3_ok⟩⟩⟩)
theorem f55.L2_ok {k : Value → World → Prop} : OKJ Tryz.prog none (f55.L2p k) (codeAt f55.body [1, 1, 1, 0, 1, 0]) (f55.Q1 k) := by
  intro a w h
  obtain ⟨D, us, ds, rfl, h0⟩ := PJ_out h
  obtain ⟨v, us, rfl, h1⟩ := un_out h0
  obtain ⟨p3, rfl, h2⟩ := asP_out h1
  obtain ⟨v, us, rfl, h3⟩ := un_out h2
  obtain ⟨n4, rfl, h4⟩ := asI_out h3
  obtain ⟨v, us, rfl, h5⟩ := un_out h4
  obtain ⟨l5, rfl, h6⟩ := asS_out h5
  obtain ⟨v, us, rfl, h7⟩ := un_out h6
  obtain ⟨n6, rfl, h8⟩ := asI_out h7
  obtain ⟨v, us, rfl, h9⟩ := un_out h8
  obtain ⟨n7, rfl, h10⟩ := asI_out h9
  obtain ⟨rfl, h11⟩ := nl_out h10
  obtain ⟨rfl, h12⟩ := dn_out h11
  rw [show (codeAt f55.body [1, 1, 1, 0, 1, 0]) = Code.loop (codeAt f55.body [1, 1, 1, 0, 1, 0, 0]) by kernel_rfl]
  exact h12 D
theorem f55.L2_rule {p3 : Option Addr} {l5 : Sl} {n6 : Int} {k : Value → World → Prop} (I : Int → Int → World → Prop) (μ : Int → Int → World → Nat) {n4 : Int} {n7 : Int} {w : World} (h0 : I n4 n7 w)
    (hr : ∀ (n4 : Int) (n7 : Int) (w : World), I n4 n7 w → f55.L2 p3 l5 n6 n4 n7 (f55.L2K p3 l5 n6 I μ (μ n4 n7 w)) k w) : f55.L2lp p3 l5 n6 n4 n7 k w := by
  intro D0
  refine loop_ind (P := Tryz.prog) (fun m a w => ∃ n4 : Int, ∃ n7 : Int, ∃ D : Nat → Value, a = fr D 44 [43, 38, 31, 30, 29] [.pointer p3, .int .i64 n4, slv l5, .int .i64 n6, .int .i64 n7] [] ∧ I n4 n7 w ∧ μ n4 n7 w = m) ?_ (μ n4 n7 w) ⟨_, _, D0, rfl, h0, rfl⟩
  rintro m a w ⟨n4, n7, D, rfl, hI, rfl⟩
  have h := hr n4 n7 w hI
  rw [← f55.L2_den D p3 l5 n6 n4 n7 (f55.L2K p3 l5 n6 I μ (μ n4 n7 w)) k w] at h
  refine then_mono (pc_wp Tryz.mixed f55.L2_okc h) ?_
  clear h
  intro a w h
  obtain ⟨D, us, ds, rfl, h0⟩ := PJ_out h
  obtain ⟨v, us, rfl, h1⟩ := un_out h0
  obtain ⟨p3', rfl, h2⟩ := asP_out h1
  obtain ⟨v, us, rfl, h3⟩ := un_out h2
  obtain ⟨n4', rfl, h4⟩ := asI_out h3
  obtain ⟨v, us, rfl, h5⟩ := un_out h4
  obtain ⟨l5', rfl, h6⟩ := asS_out h5
  obtain ⟨v, us, rfl, h7⟩ := un_out h6
  obtain ⟨n6', rfl, h8⟩ := asI_out h7
  obtain ⟨v, us, rfl, h9⟩ := un_out h8
  obtain ⟨n7', rfl, h10⟩ := asI_out h9
  obtain ⟨rfl, h11⟩ := nl_out h10
  obtain ⟨rfl, h12⟩ := dn_out h11
  obtain ⟨⟨rfl, rfl, rfl⟩, hI, hlt⟩ := h12
  exact ⟨_, hlt, _, _, D, rfl, hI, rfl⟩
def f55.b (p1 : Option Addr) (l2 : Sl) (k : Value → World → Prop) (w : World) : Prop :=
  brK p1.isNone (k (.int .i64 0) w) (f55.L2lp p1 l2 ((l2.2.1 : Nat) : Int) 0 0 k w)
theorem f55.den (p1 : Option Addr) (l2 : Sl) (k : Value → World → Prop) (w : World) : pc Tryz.prog none (.seq none .none (.seq none .none (.seq none .none (.seq (some (f55.J1p k)) (.seq none .none (.block (.at (f55.L2p k)))) .none)))) f55.body (retQ Tryz.prog [.tmp 4] k) (fun _ => undef) 44 [43, 42] [.pointer p1, slv l2] [] w = f55.b p1 l2 k w := by kernel_rfl
theorem f55.okc {k : Value → World → Prop} : okC Tryz.prog none (.seq none .none (.seq none .none (.seq none .none (.seq (some (f55.J1p k)) (.seq none .none (.block (.at (f55.L2p k)))) .none)))) f55.body (retQ Tryz.prog [.tmp 4] k) :=
  Eq.mpr (by kernel_rfl : okC Tryz.prog none (.seq none .none (.seq none .none (.seq none .none (.seq (some (f55.J1p k)) (.seq none .none (.block (.at (f55.L2p k)))) .none)))) f55.body (retQ Tryz.prog [.tmp 4] k) = (((True) ∧ (((True) ∧ (((True) ∧ (((((True) ∧ (OKJ Tryz.prog none (f55.L2p k) (codeAt f55.body [1, 1, 1, 0, 1, 0]) (f55.Q1 k)))) ∧ OKJ Tryz.prog none (f55.J1p k) (codeAt f55.body [1, 1, 1, 1]) (f55.Q3 k)))))))))) (⟨trivial, ⟨trivial, ⟨trivial, ⟨⟨trivial, f55.L2_ok⟩, f55.J1_ok⟩⟩⟩⟩)
theorem f55.call {p1 : Option Addr} {l2 : Sl} {k : Value → World → Prop} {w : World} (h : f55.b p1 l2 k w) : CALL Tryz.prog 55 #[.pointer p1, slv l2] k w :=
  calls_of_pc Tryz.mixed Tryz.func55 (by kernel_rfl : Tryz.f55.body = some f55.body) (Tryz.call55 _ _) (by kernel_rfl : #[.pointer p1, slv l2] ++ Array.replicate (Tryz.f55.ntmps - (#[.pointer p1, slv l2] : Array Value).size) undef = (FR (fun _ => undef) 44 [43, 42] [.pointer p1, slv l2]).toArray) (by kernel_rfl : Tryz.f55.results.toList = [.tmp 4]) f55.okc ((f55.den p1 l2 k w).symm ▸ h)

/-! slices.Delete[[]rollcall/api.Member,rollcall/api.Member] -/
noncomputable def f56.body : Code := (Tryz.f56.body).getD .skip
def f56.b (l1 : Sl) (n2 : Int) (n3 : Int) (k : Value → World → Prop) (w : World) : Prop :=
  RQ (0 ≤ (((l1.2.1 : Nat) : Int) : Int) ∧ (((l1.2.1 : Nat) : Int) : Int) ≤ ((l1.2.2 : Nat) : Int)) (RQ (0 ≤ (n3 : Int) ∧ (n3 : Int) ≤ (((((l1.2.1 : Nat) : Int) : Int).toNat : Nat) : Int)) (RQ (0 ≤ (n2 : Int) ∧ (n2 : Int) ≤ (((n3 : Int).toNat : Nat) : Int)) (brK (n2 == n3) (k (slv l1) w) (DR (fun w => RQ (0 ≤ (n2 : Int) ∧ (n2 : Int) ≤ ((l1.2.2 : Nat) : Int)) (RQ (0 ≤ (n3 : Int) ∧ (n3 : Int) ≤ ((l1.2.1 : Nat) : Int)) (APP 39 3 16 #[.int .i64 0, .bool false, .bool false] (slSub l1 0 ((n2 : Int).toNat) 3) ((slSub l1 ((n3 : Int).toNat) l1.2.1 3).2.1) (fun w => cellsOfS w (slSub l1 ((n3 : Int).toNat) l1.2.1 3) (((slSub l1 ((n3 : Int).toNat) l1.2.1 3).2.1) * 3)) (fun l4 w => RQ (0 ≤ (((l1.2.1 : Nat) : Int) : Int) ∧ (((l1.2.1 : Nat) : Int) : Int) ≤ ((l4.2.2 : Nat) : Int)) (RQ (0 ≤ (((l4.2.1 : Nat) : Int) : Int) ∧ (((l4.2.1 : Nat) : Int) : Int) ≤ (((((l1.2.1 : Nat) : Int) : Int).toNat : Nat) : Int)) (CLR #[.int .i64 0, .bool false, .bool false] (slSub l4 ((((l4.2.1 : Nat) : Int) : Int).toNat) ((((l1.2.1 : Nat) : Int) : Int).toNat) 3) (fun w => k (slv l4) w) w))) w))) w))))
theorem f56.den (l1 : Sl) (n2 : Int) (n3 : Int) (k : Value → World → Prop) (w : World) : pc Tryz.prog none .none f56.body (retQ Tryz.prog [.tmp 6] k) (fun _ => undef) 33 [32, 31, 30] [slv l1, .int .i64 n2, .int .i64 n3] [] w = f56.b l1 n2 n3 k w := by kernel_rfl
theorem f56.okc {k : Value → World → Prop} : okC Tryz.prog none .none f56.body (retQ Tryz.prog [.tmp 6] k) :=
  Eq.mpr (by kernel_rfl : okC Tryz.prog none .none f56.body (retQ Tryz.prog [.tmp 6] k) = (True)) (trivial)
theorem f56.call {l1 : Sl} {n2 : Int} {n3 : Int} {k : Value → World → Prop} {w : World} (h : f56.b l1 n2 n3 k w) : CALL Tryz.prog 56 #[slv l1, .int .i64 n2, .int .i64 n3] k w :=
  calls_of_pc Tryz.mixed Tryz.func56 (by kernel_rfl : Tryz.f56.body = some f56.body) (Tryz.call56 _ _) (by kernel_rfl : #[slv l1, .int .i64 n2, .int .i64 n3] ++ Array.replicate (Tryz.f56.ntmps - (#[slv l1, .int .i64 n2, .int .i64 n3] : Array Value).size) undef = (FR (fun _ => undef) 33 [32, 31, 30] [slv l1, .int .i64 n2, .int .i64 n3]).toArray) (by kernel_rfl : Tryz.f56.results.toList = [.tmp 6]) f56.okc ((f56.den l1 n2 n3 k w).symm ▸ h)

/-! (*rollcall/set.Set[int]).Has -/
noncomputable def f57.body : Code := (Tryz.f57.body).getD .skip
def f57.b (p1 : Option Addr) (n2 : Int) (k : Value → World → Prop) (w : World) : Prop :=
  brK p1.isNone (k (.bool false) w) (NN p1 (fun a3 => LD slv (Addr.add a3 0) (fun l4 w => CALL Tryz.prog 86 #[slv l4, .int .i64 n2] (fun v5 w => ∃ n6 : Int, ∃ b7 : Bool, v5 = .tuple #[.int .i64 n6, .bool b7] ∧ k (.bool b7) w) w) w))
theorem f57.den (p1 : Option Addr) (n2 : Int) (k : Value → World → Prop) (w : World) : pc Tryz.prog none .none f57.body (retQ Tryz.prog [.tmp 4] k) (fun _ => undef) 19 [18, 17] [.pointer p1, .int .i64 n2] [] w = f57.b p1 n2 k w := by kernel_rfl
theorem f57.okc {k : Value → World → Prop} : okC Tryz.prog none .none f57.body (retQ Tryz.prog [.tmp 4] k) :=
  Eq.mpr (by kernel_rfl : okC Tryz.prog none .none f57.body (retQ Tryz.prog [.tmp 4] k) = (True)) (trivial)
theorem f57.call {p1 : Option Addr} {n2 : Int} {k : Value → World → Prop} {w : World} (h : f57.b p1 n2 k w) : CALL Tryz.prog 57 #[.pointer p1, .int .i64 n2] k w :=
  calls_of_pc Tryz.mixed Tryz.func57 (by kernel_rfl : Tryz.f57.body = some f57.body) (Tryz.call57 _ _) (by kernel_rfl : #[.pointer p1, .int .i64 n2] ++ Array.replicate (Tryz.f57.ntmps - (#[.pointer p1, .int .i64 n2] : Array Value).size) undef = (FR (fun _ => undef) 19 [18, 17] [.pointer p1, .int .i64 n2]).toArray) (by kernel_rfl : Tryz.f57.results.toList = [.tmp 4]) f57.okc ((f57.den p1 n2 k w).symm ▸ h)

/-! rollcall/rollcallref03.Key -/
noncomputable def f58.body : Code := (Tryz.f58.body).getD .skip
def f58.J1 (s7 : ByteArray) (k : Value → World → Prop) (w : World) : Prop :=
  brK (decide ((1 : Int) ≤ ((s7.size : Nat) : Int))) (brK (decide (((s7.size : Nat) : Int) ≤ 23)) (SIX s7 0 (fun c8 => k (.bool (c8 != 58)) w)) (k (.bool false) w)) (k (.bool false) w)
def f58.J1p (k : Value → World → Prop) : Act → World → Prop := PJ 39 [38] fun us ds w => un us fun v us => asStr v fun s7 => nl us (dn ds (f58.J1 s7 k w))
def f58.Q1 (k : Value → World → Prop) : Exit → Act → World → Prop := (Exit.inBlock 0 (Exit.then (f58.J1p k) (retQ Tryz.prog [.tmp 2] k)))
def f58.L2k (Kn1 : ByteArray → Int → World → Prop) : Act → World → Prop := PJ 39 [38, 35] fun us ds w => un us fun v us => asStr v fun s2 => un us fun v us => asI .i64 v fun n3 => nl us (dn ds (Kn1 s2 n3 w))
def f58.Q2 (k : Value → World → Prop) : Exit → Act → World → Prop := (retQ Tryz.prog [.tmp 2] k)
def f58.L2 (s2 : ByteArray) (n3 : Int) (Kn1 : ByteArray → Int → World → Prop) (k : Value → World → Prop) (w : World) : Prop :=
  brK (decide (n3 < ((s2.size : Nat) : Int))) (SIX s2 n3 (fun c4 => brK (decide (c4 < 33)) (k (.bool false) w) (SIX s2 n3 (fun c5 => brK (decide ((126 : Int) < c5)) (k (.bool false) w) (SIX s2 n3 (fun c6 => brK (c6 == 44) (k (.bool false) w) (Kn1 s2 (IntKind.wrap .i64 (n3 + 1)) w))))))) (f58.J1 s2 k w)
def f58.L2lp (s2 : ByteArray) (n3 : Int) (k : Value → World → Prop) (w : World) : Prop := ∀ D : Nat → Value, (Code.loop (codeAt f58.body [1, 0, 1, 0, 0])).wpIn (Wd none) 0 Tryz.prog (f58.Q1 k) (fr D 39 [38, 35] [.string s2, .int .i64 n3] []) w
def f58.L2p (k : Value → World → Prop) : Act → World → Prop := PJ 39 [38, 35] fun us ds w => un us fun v us => asStr v fun s2 => un us fun v us => asI .i64 v fun n3 => nl us (dn ds (f58.L2lp s2 n3 k w))
def f58.L2K (s2 : ByteArray) (I : Int → World → Prop) (μ : Int → World → Nat) (m : Nat) (s2' : ByteArray) (n3' : Int) (w : World) : Prop := (s2' = s2) ∧ I n3' w ∧ μ n3' w < m
theorem f58.J1_den (D : Nat → Value) (s7 : ByteArray) (k : Value → World → Prop) (w : World) : pc Tryz.prog none .none (codeAt f58.body [1, 1]) (f58.Q2 k) D 39 [38] [.string s7] [] w = f58.J1 s7 k w := by kernel_rfl
theorem f58.J1_okc {k : Value → World → Prop} : okC Tryz.prog none .none (codeAt f58.body [1, 1]) (f58.Q2 k) :=
  Eq.mpr (by kernel_rfl : okC Tryz.prog none .none (codeAt f58.body [1, 1]) (f58.Q2 k) = (True)) (trivial)
theorem f58.J1_ok {k : Value → World → Prop} : OKJ Tryz.prog none (f58.J1p k) (codeAt f58.body [1, 1]) (f58.Q2 k) := by
  intro a w h
  obtain ⟨D, us, ds, rfl, h0⟩ := PJ_out h
  obtain ⟨v, us, rfl, h1⟩ := un_out h0
  obtain ⟨s7, rfl, h2⟩ := asStr_out h1
  obtain ⟨rfl, h3⟩ := nl_out h2
  obtain ⟨rfl, h4⟩ := dn_out h3
  rw [← f58.J1_den D s7 k w] at h4
  exact pc_wp Tryz.mixed f58.J1_okc h4
theorem f58.L2_next {s2 : ByteArray} {I : Int → World → Prop} {μ : Int → World → Nat} {m : Nat} {n3 : Int} {w : World} (hI : I n3 w) (hlt : μ n3 w < m) : f58.L2K s2 I μ m s2 n3 w := ⟨rfl, hI, hlt⟩
theorem f58.L2_den (D : Nat → Value) (s2 : ByteArray) (n3 : Int) (Kn1 : ByteArray → Int → World → Prop) (k : Value → World → Prop) (w : World) : pc Tryz.prog none .none (codeAt f58.body [1, 0, 1, 0, 0]) (Exit.then (f58.L2k Kn1) (f58.Q1 k)) D 39 [38, 35] [.string s2, .int .i64 n3] [] w = f58.L2 s2 n3 Kn1 k w := by kernel_rfl
theorem f58.L2_okc {Kn1 : ByteArray → Int → World → Prop} {k : Value → World → Prop} : okC Tryz.prog none .none (codeAt f58.body [1, 0, 1, 0, 0]) (Exit.then (f58.L2k Kn1) (f58.Q1 k)) :=
  Eq.mpr (by kernel_rfl : okC Tryz.prog none .none (codeAt f58.body [1, 0, 1, 0, 0]) (Exit.then (f58.L2k Kn1) (f58.Q1 k)) = (True)) (trivial)
theorem f58.L2_ok {k : Value → World → Prop} : OKJ Tryz.prog none (f58.L2p k) (codeAt f58.body [1, 0, 1, 0]) (f58.Q1 k) := by
  intro a w h
  obtain ⟨D, us, ds, rfl, h0⟩ := PJ_out h
  obtain ⟨v, us, rfl, h1⟩ := un_out h0
  obtain ⟨s2, rfl, h2⟩ := asStr_out h1
  obtain ⟨v, us, rfl, h3⟩ := un_out h2
  obtain ⟨n3, rfl, h4⟩ := asI_out h3
  obtain ⟨rfl, h5⟩ := nl_out h4
  obtain ⟨rfl, h6⟩ := dn_out h5
  rw [show (codeAt f58.body [1, 0, 1, 0]) = Code.loop (codeAt f58.body [1, 0, 1, 0, 0]) by kernel_rfl]
  exact h6 D
theorem f58.L2_rule {s2 : ByteArray} {k : Value → World → Prop} (I : Int → World → Prop) (μ : Int → World → Nat) {n3 : Int} {w : World} (h0 : I n3 w)
    (hr : ∀ (n3 : Int) (w : World), I n3 w → f58.L2 s2 n3 (f58.L2K s2 I μ (μ n3 w)) k w) : f58.L2lp s2 n3 k w := by
  intro D0
  refine loop_ind (P := Tryz.prog) (fun m a w => ∃ n3 : Int, ∃ D : Nat → Value, a = fr D 39 [38, 35] [.string s2, .int .i64 n3] [] ∧ I n3 w ∧ μ n3 w = m) ?_ (μ n3 w) ⟨_, D0, rfl, h0, rfl⟩
  rintro m a w ⟨n3, D, rfl, hI, rfl⟩
  have h := hr n3 w hI
  rw [← f58.L2_den D s2 n3 (f58.L2K s2 I μ (μ n3 w)) k w] at h
  refine then_mono (pc_wp Tryz.mixed f58.L2_okc h) ?_
  clear h
  intro a w h
  obtain ⟨D, us, ds, rfl, h0⟩ := PJ_out h
  obtain ⟨v, us, rfl, h1⟩ := un_out h0
  obtain ⟨s2', rfl, h2⟩ := asStr_out h1
  obtain ⟨v, us, rfl, h3⟩ := un_out h2
  obtain ⟨n3', rfl, h4⟩ := asI_out h3
  obtain ⟨rfl, h5⟩ := nl_out h4
  obtain ⟨rfl, h6⟩ := dn_out h5
  obtain ⟨rfl, hI, hlt⟩ := h6
  exact ⟨_, hlt, _, D, rfl, hI, rfl⟩
def f58.b (s1 : ByteArray) (k : Value → World → Prop) (w : World) : Prop :=
  f58.L2lp s1 0 k w
theorem f58.den (s1 : ByteArray) (k : Value → World → Prop) (w : World) : pc Tryz.prog none (.seq none .none (.seq (some (f58.J1p k)) (.seq none .none (.block (.at (f58.L2p k)))) .none)) f58.body (retQ Tryz.prog [.tmp 2] k) (fun _ => undef) 39 [38] [.string s1] [] w = f58.b s1 k w := by kernel_rfl
theorem f58.okc {k : Value → World → Prop} : okC Tryz.prog none (.seq none .none (.seq (some (f58.J1p k)) (.seq none .none (.block (.at (f58.L2p k)))) .none)) f58.body (retQ Tryz.prog [.tmp 2] k) :=
  Eq.mpr (by kernel_rfl : okC Tryz.prog none (.seq none .none (.seq (some (f58.J1p k)) (.seq none .none (.block (.at (f58.L2p k)))) .none)) f58.body (retQ Tryz.prog [.tmp 2] k) = (((True) ∧ (((((True) ∧ (OKJ Tryz.prog none (f58.L2p k) (codeAt f58.body [1, 0, 1, 0]) (f58.Q1 k)))) ∧ OKJ Tryz.prog none (f58.J1p k) (codeAt f58.body [1, 1]) (f58.Q2 k)))))) (⟨trivial, ⟨⟨trivial, f58.L2_ok⟩, f58.J1_ok⟩⟩)
theorem f58.call {s1 : ByteArray} {k : Value → World → Prop} {w : World} (h : f58.b s1 k w) : CALL Tryz.prog 58 #[.string s1] k w :=
  calls_of_pc Tryz.mixed Tryz.func58 (by kernel_rfl : Tryz.f58.body = some f58.body) (Tryz.call58 _ _) (by kernel_rfl : #[.string s1] ++ Array.replicate (Tryz.f58.ntmps - (#[.string s1] : Array Value).size) undef = (FR (fun _ => undef) 39 [38] [.string s1]).toArray) (by kernel_rfl : Tryz.f58.results.toList = [.tmp 2]) f58.okc ((f58.den s1 k w).symm ▸ h)

/-! rollcall/rollcallref19.Number -/
noncomputable def f59.body : Code := (Tryz.f59.body).getD .skip
def f59.J1 (n11 : Int) (k : Value → World → Prop) (w : World) : Prop :=
  k (.int .i64 n11) w
def f59.J1p (k : Value → World → Prop) : Act → World → Prop := PJ 39 [35] fun us ds w => un us fun v us => asI .i64 v fun n11 => nl us (dn ds (f59.J1 n11 k w))
def f59.Q1 (k : Value → World → Prop) : Exit → Act → World → Prop := (Exit.inBlock 0 (Exit.then (f59.J1p k) (retQ Tryz.prog [.tmp 2] k)))
def f59.L2k (Kn1 : ByteArray → Int → Int → World → Prop) : Act → World → Prop := PJ 39 [38, 35, 34] fun us ds w => un us fun v us => asStr v fun s2 => un us fun v us => asI .i64 v fun n3 => un us fun v us => asI .i64 v fun n4 => nl us (dn ds (Kn1 s2 n3 n4 w))
def f59.Q2 (k : Value → World → Prop) : Exit → Act → World → Prop := (retQ Tryz.prog [.tmp 2] k)
def f59.L2 (s2 : ByteArray) (n3 : Int) (n4 : Int) (Kn1 : ByteArray → Int → Int → World → Prop) (k : Value → World → Prop) (w : World) : Prop :=
  brK (decide (n4 < ((s2.size : Nat) : Int))) (SIX s2 n4 (fun c5 => CALL Tryz.prog 93 #[.int .u8 c5] (fun v6 w => ∃ b7 : Bool, v6 = .bool b7 ∧ brK (!b7) (k (.int .i64 0) w) (brK (n4 == 0) (SIX s2 n4 (fun c8 => brK (c8 == 48) (k (.int .i64 0) w) (brK (n4 == 4) (k (.int .i64 0) w) (SIX s2 n4 (fun c9 => Kn1 s2 (IntKind.wrap .i64 ((IntKind.wrap .i64 ((IntKind.wrap .i64 (10 * n3)) + (IntKind.wrap .i64 c9))) - 48)) (IntKind.wrap .i64 (n4 + 1)) w))))) (brK (n4 == 4) (k (.int .i64 0) w) (SIX s2 n4 (fun c10 => Kn1 s2 (IntKind.wrap .i64 ((IntKind.wrap .i64 ((IntKind.wrap .i64 (10 * n3)) + (IntKind.wrap .i64 c10))) - 48)) (IntKind.wrap .i64 (n4 + 1)) w))))) w)) (f59.J1 n3 k w)
def f59.L2lp (s2 : ByteArray) (n3 : Int) (n4 : Int) (k : Value → World → Prop) (w : World) : Prop := ∀ D : Nat → Value, (Code.loop (codeAt f59.body [1, 1, 0, 1, 0, 0])).wpIn (Wd none) 0 Tryz.prog (f59.Q1 k) (fr D 39 [38, 35, 34] [.string s2, .int .i64 n3, .int .i64 n4] []) w
def f59.L2p (k : Value → World → Prop) : Act → World → Prop := PJ 39 [38, 35, 34] fun us ds w => un us fun v us => asStr v fun s2 => un us fun v us => asI .i64 v fun n3 => un us fun v us => asI .i64 v fun n4 => nl us (dn ds (f59.L2lp s2 n3 n4 k w))
def f59.L2K (s2 : ByteArray) (I : Int → Int → World → Prop) (μ : Int → Int → World → Nat) (m : Nat) (s2' : ByteArray) (n3' : Int) (n4' : Int) (w : World) : Prop := (s2' = s2) ∧ I n3' n4' w ∧ μ n3' n4' w < m
theorem f59.J1_den (D : Nat → Value) (n11 : Int) (k : Value → World → Prop) (w : World) : pc Tryz.prog none .none (codeAt f59.body [1, 1, 1]) (f59.Q2 k) D 39 [35] [.int .i64 n11] [] w = f59.J1 n11 k w := by kernel_rfl
theorem f59.J1_okc {k : Value → World → Prop} : okC Tryz.prog none .none (codeAt f59.body [1, 1, 1]) (f59.Q2 k) :=
  Eq.mpr (by kernel_rfl : okC Tryz.prog none .none (codeAt f59.body [1, 1, 1]) (f59.Q2 k) = (True)) (trivial)
theorem f59.J1_ok {k : Value → World → Prop} : OKJ Tryz.prog none (f59.J1p k) (codeAt f59.body [1, 1, 1]) (f59.Q2 k) := by
  intro a w h
  obtain ⟨D, us, ds, rfl, h0⟩ := PJ_out h
  obtain ⟨v, us, rfl, h1⟩ := un_out h0
  obtain ⟨n11, rfl, h2⟩ := asI_out h1
  obtain ⟨rfl, h3⟩ := nl_out h2
  obtain ⟨rfl, h4⟩ := dn_out h3
  rw [← f59.J1_den D n11 k w] at h4
  exact pc_wp Tryz.mixed f59.J1_okc h4
theorem f59.L2_next {s2 : ByteArray} {I : Int → Int → World → Prop} {μ : Int → Int → World → Nat} {m : Nat} {n3 : Int} {n4 : Int} {w : World} (hI : I n3 n4 w) (hlt : μ n3 n4 w < m) : f59.L2K s2 I μ m s2 n3 n4 w := ⟨rfl, hI, hlt⟩
theorem f59.L2_den (D : Nat → Value) (s2 : ByteArray) (n3 : Int) (n4 : Int) (Kn1 : ByteArray → Int → Int → World → Prop) (k : Value → World → Prop) (w : World) : pc Tryz.prog none .none (codeAt f59.body [1, 1, 0, 1, 0, 0]) (Exit.then (f59.L2k Kn1) (f59.Q1 k)) D 39 [38, 35, 34] [.string s2, .int .i64 n3, .int .i64 n4] [] w = f59.L2 s2 n3 n4 Kn1 k w := by kernel_rfl
theorem f59.L2_okc {Kn1 : ByteArray → Int → Int → World → Prop} {k : Value → World → Prop} : okC Tryz.prog none .none (codeAt f59.body [1, 1, 0, 1, 0, 0]) (Exit.then (f59.L2k Kn1) (f59.Q1 k)) :=
  Eq.mpr (by kernel_rfl : okC Tryz.prog none .none (codeAt f59.body [1, 1, 0, 1, 0, 0]) (Exit.then (f59.L2k Kn1) (f59.Q1 k)) = (True)) (trivial)
theorem f59.L2_ok {k : Value → World → Prop} : OKJ Tryz.prog none (f59.L2p k) (codeAt f59.body [1, 1, 0, 1, 0]) (f59.Q1 k) := by
  intro a w h
  obtain ⟨D, us, ds, rfl, h0⟩ := PJ_out h
  obtain ⟨v, us, rfl, h1⟩ := un_out h0
  obtain ⟨s2, rfl, h2⟩ := asStr_out h1
  obtain ⟨v, us, rfl, h3⟩ := un_out h2
  obtain ⟨n3, rfl, h4⟩ := asI_out h3
  obtain ⟨v, us, rfl, h5⟩ := un_out h4
  obtain ⟨n4, rfl, h6⟩ := asI_out h5
  obtain ⟨rfl, h7⟩ := nl_out h6
  obtain ⟨rfl, h8⟩ := dn_out h7
  rw [show (codeAt f59.body [1, 1, 0, 1, 0]) = Code.loop (codeAt f59.body [1, 1, 0, 1, 0, 0]) by kernel_rfl]
  exact h8 D
theorem f59.L2_rule {s2 : ByteArray} {k : Value → World → Prop} (I : Int → Int → World → Prop) (μ : Int → Int → World → Nat) {n3 : Int} {n4 : Int} {w : World} (h0 : I n3 n4 w)
    (hr : ∀ (n3 : Int) (n4 : Int) (w : World), I n3 n4 w → f59.L2 s2 n3 n4 (f59.L2K s2 I μ (μ n3 n4 w)) k w) : f59.L2lp s2 n3 n4 k w := by
  intro D0
  refine loop_ind (P := Tryz.prog) (fun m a w => ∃ n3 : Int, ∃ n4 : Int, ∃ D : Nat → Value, a = fr D 39 [38, 35, 34] [.string s2, .int .i64 n3, .int .i64 n4] [] ∧ I n3 n4 w ∧ μ n3 n4 w = m) ?_ (μ n3 n4 w) ⟨_, _, D0, rfl, h0, rfl⟩
  rintro m a w ⟨n3, n4, D, rfl, hI, rfl⟩
  have h := hr n3 n4 w hI
  rw [← f59.L2_den D s2 n3 n4 (f59.L2K s2 I μ (μ n3 n4 w)) k w] at h
  refine then_mono (pc_wp Tryz.mixed f59.L2_okc h) ?_
  clear h
  intro a w h
  obtain ⟨D, us, ds, rfl, h0⟩ := PJ_out h
  obtain ⟨v, us, rfl, h1⟩ := un_out h0
  obtain ⟨s2', rfl, h2⟩ := asStr_out h1
  obtain ⟨v, us, rfl, h3⟩ := un_out h2
  obtain ⟨n3', rfl, h4⟩ := asI_out h3
  obtain ⟨v, us, rfl, h5⟩ := un_out h4
  obtain ⟨n4', rfl, h6⟩ := asI_out h5
  obtain ⟨rfl, h7⟩ := nl_out h6
  obtain ⟨rfl, h8⟩ := dn_out h7
  obtain ⟨rfl, hI, hlt⟩ := h8
  exact ⟨_, hlt, _, _, D, rfl, hI, rfl⟩
def f59.b (s1 : ByteArray) (k : Value → World → Prop) (w : World) : Prop :=
  f59.L2lp s1 0 0 k w
theorem f59.den (s1 : ByteArray) (k : Value → World → Prop) (w : World) : pc Tryz.prog none (.seq none .none (.seq none .none (.seq (some (f59.J1p k)) (.seq none .none (.block (.at (f59.L2p k)))) .none))) f59.body (retQ Tryz.prog [.tmp 2] k) (fun _ => undef) 39 [38] [.string s1] [] w = f59.b s1 k w := by kernel_rfl
theorem f59.okc {k : Value → World → Prop} : okC Tryz.prog none (.seq none .none (.seq none .none (.seq (some (f59.J1p k)) (.seq none .none (.block (.at (f59.L2p k)))) .none))) f59.body (retQ Tryz.prog [.tmp 2] k) :=
  Eq.mpr (by kernel_rfl : okC Tryz.prog none (.seq none .none (.seq none .none (.seq (some (f59.J1p k)) (.seq none .none (.block (.at (f59.L2p k)))) .none))) f59.body (retQ Tryz.prog [.tmp 2] k) = (((True) ∧ (((True) ∧ (((((True) ∧ (OKJ Tryz.prog none (f59.L2p k) (codeAt f59.body [1, 1, 0, 1, 0]) (f59.Q1 k)))) ∧ OKJ Tryz.prog none (f59.J1p k) (codeAt f59.body [1, 1, 1]) (f59.Q2 k)))))))) (⟨trivial, ⟨trivial, ⟨⟨trivial, f59.L2_ok⟩, f59.J1_ok⟩⟩⟩)
theorem f59.call {s1 : ByteArray} {k : Value → World → Prop} {w : World} (h : f59.b s1 k w) : CALL Tryz.prog 59 #[.string s1] k w :=
  calls_of_pc Tryz.mixed Tryz.func59 (by kernel_rfl : Tryz.f59.body = some f59.body) (Tryz.call59 _ _) (by kernel_rfl : #[.string s1] ++ Array.replicate (Tryz.f59.ntmps - (#[.string s1] : Array Value).size) undef = (FR (fun _ => undef) 39 [38] [.string s1]).toArray) (by kernel_rfl : Tryz.f59.results.toList = [.tmp 2]) f59.okc ((f59.den s1 k w).symm ▸ h)
end Go.Proofs.YtlefdgplobifiaaGreatDoor
