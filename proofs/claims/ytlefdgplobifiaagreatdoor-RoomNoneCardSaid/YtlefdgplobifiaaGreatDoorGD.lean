/- Printed by gen2.py: the functions' bodies over the primitives of Den, in pieces. -/
import Derived.Test.YtlefdgplobifiaaGreatDoorCut
import Derived.Test.YtlefdgplobifiaaGreatDoorKit
namespace Go.Proofs.YtlefdgplobifiaaGreatDoor
open Go
set_option maxRecDepth 100000
set_option linter.unusedVariables false
/-! strings.Cut -/
noncomputable def f103.body : Code := (Tryz.f103.body).getD .skip
def f103.b (s1 : ByteArray) (s2 : ByteArray) (k : Value → World → Prop) (w : World) : Prop :=
  CALL Tryz.prog 134 #[.string s1, .string s2] (fun v3 w => ∃ s4 : ByteArray, ∃ s5 : ByteArray, ∃ b6 : Bool, v3 = .tuple #[.string s4, .string s5, .bool b6] ∧ k (.tuple #[.string s4, .string s5, .bool b6]) w) w
theorem f103.den (s1 : ByteArray) (s2 : ByteArray) (k : Value → World → Prop) (w : World) : pc Tryz.prog none .none f103.body (retQ Tryz.prog [.tmp 4, .tmp 5, .tmp 6] k) (fun _ => undef) 13 [12, 11] [.string s1, .string s2] [] w = f103.b s1 s2 k w := by kernel_rfl
theorem f103.okc {k : Value → World → Prop} : okC Tryz.prog none .none f103.body (retQ Tryz.prog [.tmp 4, .tmp 5, .tmp 6] k) :=
  Eq.mpr (by kernel_rfl : okC Tryz.prog none .none f103.body (retQ Tryz.prog [.tmp 4, .tmp 5, .tmp 6] k) = (True)) (trivial)
theorem f103.call {s1 : ByteArray} {s2 : ByteArray} {k : Value → World → Prop} {w : World} (h : f103.b s1 s2 k w) : CALL Tryz.prog 103 #[.string s1, .string s2] k w :=
  calls_of_pc Tryz.mixed Tryz.func103 (by kernel_rfl : Tryz.f103.body = some f103.body) (Tryz.call103 _ _) (by kernel_rfl : #[.string s1, .string s2] ++ Array.replicate (Tryz.f103.ntmps - (#[.string s1, .string s2] : Array Value).size) undef = (FR (fun _ => undef) 13 [12, 11] [.string s1, .string s2]).toArray) (by kernel_rfl : Tryz.f103.results.toList = [.tmp 4, .tmp 5, .tmp 6]) f103.okc ((f103.den s1 s2 k w).symm ▸ h)

/-! (*strings.Builder).copyCheck -/
noncomputable def f115.body : Code := (Tryz.f115.body).getD .skip
def f115.b (p1 : Option Addr) (k : Value → World → Prop) (w : World) : Prop :=
  NN p1 (fun a2 => LD Value.pointer (Addr.add a2 0) (fun p3 w => brK p3.isNone (RV Tryz.prog (convert 119 157 (.pointer p1)) (fun v4 w => ∃ p5 : Option Addr, v4 = .pointer p5 ∧ CALL Tryz.prog 139 #[.pointer p5] (fun v6 w => ∃ p7 : Option Addr, v6 = .pointer p7 ∧ RV Tryz.prog (convert 157 119 (.pointer p7)) (fun v8 w => ∃ p9 : Option Addr, v8 = .pointer p9 ∧ NN p1 (fun a10 => ST (Addr.add (Addr.add a10 0) 0) (.pointer p9) (fun w => k (.tuple #[]) w) w)) w) w) w) (NN p1 (fun a11 => LD Value.pointer (Addr.add a11 0) (fun p12 w => PEQ p12 p1 (fun b13 => brK (!b13) (False) (k (.tuple #[]) w))) w))) w)
theorem f115.den (p1 : Option Addr) (k : Value → World → Prop) (w : World) : pc Tryz.prog none .none f115.body (retQ Tryz.prog [] k) (fun _ => undef) 20 [19] [.pointer p1] [] w = f115.b p1 k w := by kernel_rfl
theorem f115.okc {k : Value → World → Prop} : okC Tryz.prog none .none f115.body (retQ Tryz.prog [] k) :=
  Eq.mpr (by kernel_rfl : okC Tryz.prog none .none f115.body (retQ Tryz.prog [] k) = (True)) (trivial)
theorem f115.call {p1 : Option Addr} {k : Value → World → Prop} {w : World} (h : f115.b p1 k w) : CALL Tryz.prog 115 #[.pointer p1] k w :=
  calls_of_pc Tryz.mixed Tryz.func115 (by kernel_rfl : Tryz.f115.body = some f115.body) (Tryz.call115 _ _) (by kernel_rfl : #[.pointer p1] ++ Array.replicate (Tryz.f115.ntmps - (#[.pointer p1] : Array Value).size) undef = (FR (fun _ => undef) 20 [19] [.pointer p1]).toArray) (by kernel_rfl : Tryz.f115.results.toList = []) f115.okc ((f115.den p1 k w).symm ▸ h)

/-! internal/stringslite.Cut -/
noncomputable def f134.body : Code := (Tryz.f134.body).getD .skip
def f134.b (s1 : ByteArray) (s2 : ByteArray) (k : Value → World → Prop) (w : World) : Prop :=
  CALL Tryz.prog 135 #[.string s1, .string s2] (fun v3 w => ∃ n4 : Int, v3 = .int .i64 n4 ∧ brK (decide ((0 : Int) ≤ n4)) (DR (fun w => RQ (0 ≤ (n4 : Int) ∧ (n4 : Int) ≤ ((s1.size : Nat) : Int)) (RQ (0 ≤ (IntKind.wrap .i64 (n4 + ((s2.size : Nat) : Int)) : Int) ∧ (IntKind.wrap .i64 (n4 + ((s2.size : Nat) : Int)) : Int) ≤ ((s1.size : Nat) : Int)) (k (.tuple #[.string (s1.extract 0 ((n4 : Int).toNat)), .string (s1.extract ((IntKind.wrap .i64 (n4 + ((s2.size : Nat) : Int)) : Int).toNat) s1.size), .bool true]) w))) w) (k (.tuple #[.string s1, .string (⟨#[]⟩ : ByteArray), .bool false]) w)) w
theorem f134.den (s1 : ByteArray) (s2 : ByteArray) (k : Value → World → Prop) (w : World) : pc Tryz.prog none .none f134.body (retQ Tryz.prog [.tmp 4, .tmp 5, .tmp 6] k) (fun _ => undef) 23 [22, 21] [.string s1, .string s2] [] w = f134.b s1 s2 k w := by kernel_rfl
theorem f134.okc {k : Value → World → Prop} : okC Tryz.prog none .none f134.body (retQ Tryz.prog [.tmp 4, .tmp 5, .tmp 6] k) :=
  Eq.mpr (by kernel_rfl : okC Tryz.prog none .none f134.body (retQ Tryz.prog [.tmp 4, .tmp 5, .tmp 6] k) = (True)) (trivial)
theorem f134.call {s1 : ByteArray} {s2 : ByteArray} {k : Value → World → Prop} {w : World} (h : f134.b s1 s2 k w) : CALL Tryz.prog 134 #[.string s1, .string s2] k w :=
  calls_of_pc Tryz.mixed Tryz.func134 (by kernel_rfl : Tryz.f134.body = some f134.body) (Tryz.call134 _ _) (by kernel_rfl : #[.string s1, .string s2] ++ Array.replicate (Tryz.f134.ntmps - (#[.string s1, .string s2] : Array Value).size) undef = (FR (fun _ => undef) 23 [22, 21] [.string s1, .string s2]).toArray) (by kernel_rfl : Tryz.f134.results.toList = [.tmp 4, .tmp 5, .tmp 6]) f134.okc ((f134.den s1 s2 k w).symm ▸ h)

/-! rollcall/rollcallref01.Digits -/
noncomputable def f81.body : Code := (Tryz.f81.body).getD .skip
def f81.b (n1 : Int) (k : Value → World → Prop) (w : World) : Prop :=
  brK (decide (n1 < 10)) (AL (.cells #[.int .u8 (IntKind.wrap .u8 (IntKind.wrap .i64 (48 + n1)))] 5) (fun q2 w => B2S ((some ⟨q2, 0, none⟩), 1, 1) (fun s3 w => k (.string s3) w) w) w) (DR (fun w => RQ ((10 : Int) ≠ 0) (RQ ((10 : Int) ≠ 0) ((CALL Tryz.prog 81 #[.int .i64 (IntKind.wrap .i64 (Int.tdiv n1 10))] (fun v4 w => ∃ s5 : ByteArray, v4 = .string s5 ∧ AL (.cells #[.int .u8 (IntKind.wrap .u8 (IntKind.wrap .i64 (48 + (Int.tmod n1 10))))] 5) (fun q6 w => B2S ((some ⟨q6, 0, none⟩), 1, 1) (fun s7 w => RQ (((s5.size + s7.size : Nat) : Int) ≤ 9223372036854775807) (k (.string (s5 ++ s7)) w)) w) w) w) ∧ (AL (.cells #[.int .u8 (IntKind.wrap .u8 (IntKind.wrap .i64 (48 + (Int.tmod n1 10))))] 5) (fun q8 w => (CALL Tryz.prog 81 #[.int .i64 (IntKind.wrap .i64 (Int.tdiv n1 10))] (fun v9 w => ∃ s10 : ByteArray, v9 = .string s10 ∧ B2S ((some ⟨q8, 0, none⟩), 1, 1) (fun s11 w => RQ (((s10.size + s11.size : Nat) : Int) ≤ 9223372036854775807) (k (.string (s10 ++ s11)) w)) w) w) ∧ (B2S ((some ⟨q8, 0, none⟩), 1, 1) (fun s12 w => CALL Tryz.prog 81 #[.int .i64 (IntKind.wrap .i64 (Int.tdiv n1 10))] (fun v13 w => ∃ s14 : ByteArray, v13 = .string s14 ∧ RQ (((s14.size + s12.size : Nat) : Int) ≤ 9223372036854775807) (k (.string (s14 ++ s12)) w)) w) w)) w)))) w)
theorem f81.den (n1 : Int) (k : Value → World → Prop) (w : World) : pc Tryz.prog none .none f81.body (retQ Tryz.prog [.tmp 2] k) (fun _ => undef) 20 [19] [.int .i64 n1] [] w = f81.b n1 k w := by kernel_rfl
theorem f81.okc {k : Value → World → Prop} : okC Tryz.prog none .none f81.body (retQ Tryz.prog [.tmp 2] k) :=
  Eq.mpr (by kernel_rfl : okC Tryz.prog none .none f81.body (retQ Tryz.prog [.tmp 2] k) = (True)) (trivial)
theorem f81.call {n1 : Int} {k : Value → World → Prop} {w : World} (h : f81.b n1 k w) : CALL Tryz.prog 81 #[.int .i64 n1] k w :=
  calls_of_pc Tryz.mixed Tryz.func81 (by kernel_rfl : Tryz.f81.body = some f81.body) (Tryz.call81 _ _) (by kernel_rfl : #[.int .i64 n1] ++ Array.replicate (Tryz.f81.ntmps - (#[.int .i64 n1] : Array Value).size) undef = (FR (fun _ => undef) 20 [19] [.int .i64 n1]).toArray) (by kernel_rfl : Tryz.f81.results.toList = [.tmp 2]) f81.okc ((f81.den n1 k w).symm ▸ h)

/-! rollcall/glob.Match -/
noncomputable def f83.body : Code := (Tryz.f83.body).getD .skip
def f83.J1 (s18 : ByteArray) (n19 : Int) (k : Value → World → Prop) (w : World) : Prop :=
  RQ (0 ≤ (n19 : Int) ∧ (n19 : Int) ≤ ((s18.size : Nat) : Int)) (CALL Tryz.prog 101 #[.string (s18.extract ((n19 : Int).toNat) s18.size), .string (⟨#[42]⟩ : ByteArray)] (fun v20 w => ∃ s21 : ByteArray, v20 = .string s21 ∧ k (.bool (decide ((s21 : ByteArray) = (⟨#[]⟩ : ByteArray)))) w) w)
def f83.J1p (k : Value → World → Prop) : Act → World → Prop := PJ 59 [58, 52] fun us ds w => un us fun v us => asStr v fun s18 => un us fun v us => asI .i64 v fun n19 => nl us (dn ds (f83.J1 s18 n19 k w))
def f83.Q1 (k : Value → World → Prop) : Exit → Act → World → Prop := (Exit.inBlock 0 (Exit.then (f83.J1p k) (Exit.noGoto (retQ Tryz.prog [.tmp 4] k))))
def f83.L2k (Kn1 : ByteArray → ByteArray → Int → Int → Int → Int → World → Prop) : Act → World → Prop := PJ 59 [58, 57, 53, 52, 51, 50] fun us ds w => un us fun v us => asStr v fun s3 => un us fun v us => asStr v fun s4 => un us fun v us => asI .i64 v fun n5 => un us fun v us => asI .i64 v fun n6 => un us fun v us => asI .i64 v fun n7 => un us fun v us => asI .i64 v fun n8 => nl us (dn ds (Kn1 s3 s4 n5 n6 n7 n8 w))
def f83.Q2 (k : Value → World → Prop) : Exit → Act → World → Prop := (Exit.noGoto (retQ Tryz.prog [.tmp 4] k))
def f83.L2 (s3 : ByteArray) (s4 : ByteArray) (n5 : Int) (n6 : Int) (n7 : Int) (n8 : Int) (Kn1 : ByteArray → ByteArray → Int → Int → Int → Int → World → Prop) (k : Value → World → Prop) (w : World) : Prop :=
  brK (decide (n5 < ((s4.size : Nat) : Int))) (brK (decide (n6 < ((s3.size : Nat) : Int))) (SIX s3 n6 (fun c9 => brK (c9 == 42) (Kn1 s3 s4 n5 (IntKind.wrap .i64 (n6 + 1)) n6 n5 w) (DR (fun w => brK (decide (n6 < ((s3.size : Nat) : Int))) (SIX s3 n6 (fun c10 => SIX s4 n5 (fun c11 => CALL Tryz.prog 109 #[.int .u8 c10, .int .u8 c11] (fun v12 w => ∃ b13 : Bool, v12 = .bool b13 ∧ brK b13 (Kn1 s3 s4 (IntKind.wrap .i64 (n5 + 1)) (IntKind.wrap .i64 (n6 + 1)) n7 n8 w) (brK (decide (n7 < 0)) (k (.bool false) w) (Kn1 s3 s4 (IntKind.wrap .i64 (n8 + 1)) (IntKind.wrap .i64 (n7 + 1)) n7 (IntKind.wrap .i64 (n8 + 1)) w))) w))) (brK (decide (n7 < 0)) (k (.bool false) w) (Kn1 s3 s4 (IntKind.wrap .i64 (n8 + 1)) (IntKind.wrap .i64 (n7 + 1)) n7 (IntKind.wrap .i64 (n8 + 1)) w))) w))) (DR (fun w => brK (decide (n6 < ((s3.size : Nat) : Int))) (SIX s3 n6 (fun c14 => SIX s4 n5 (fun c15 => CALL Tryz.prog 109 #[.int .u8 c14, .int .u8 c15] (fun v16 w => ∃ b17 : Bool, v16 = .bool b17 ∧ brK b17 (Kn1 s3 s4 (IntKind.wrap .i64 (n5 + 1)) (IntKind.wrap .i64 (n6 + 1)) n7 n8 w) (brK (decide (n7 < 0)) (k (.bool false) w) (Kn1 s3 s4 (IntKind.wrap .i64 (n8 + 1)) (IntKind.wrap .i64 (n7 + 1)) n7 (IntKind.wrap .i64 (n8 + 1)) w))) w))) (brK (decide (n7 < 0)) (k (.bool false) w) (Kn1 s3 s4 (IntKind.wrap .i64 (n8 + 1)) (IntKind.wrap .i64 (n7 + 1)) n7 (IntKind.wrap .i64 (n8 + 1)) w))) w)) (f83.J1 s3 n6 k w)
def f83.L2lp (s3 : ByteArray) (s4 : ByteArray) (n5 : Int) (n6 : Int) (n7 : Int) (n8 : Int) (k : Value → World → Prop) (w : World) : Prop := ∀ D : Nat → Value, (Code.loop (codeAt f83.body [1, 0, 1, 1, 1, 0, 0, 0])).wpIn (Wd none) 0 Tryz.prog (f83.Q1 k) (fr D 59 [58, 57, 53, 52, 51, 50] [.string s3, .string s4, .int .i64 n5, .int .i64 n6, .int .i64 n7, .int .i64 n8] []) w
def f83.L2p (k : Value → World → Prop) : Act → World → Prop := PJ 59 [58, 57, 53, 52, 51, 50] fun us ds w => un us fun v us => asStr v fun s3 => un us fun v us => asStr v fun s4 => un us fun v us => asI .i64 v fun n5 => un us fun v us => asI .i64 v fun n6 => un us fun v us => asI .i64 v fun n7 => un us fun v us => asI .i64 v fun n8 => nl us (dn ds (f83.L2lp s3 s4 n5 n6 n7 n8 k w))
def f83.L2K (s3 : ByteArray) (s4 : ByteArray) (I : Int → Int → Int → Int → World → Prop) (μ : Int → Int → Int → Int → World → Nat) (m : Nat) (s3' : ByteArray) (s4' : ByteArray) (n5' : Int) (n6' : Int) (n7' : Int) (n8' : Int) (w : World) : Prop := (s3' = s3 ∧ s4' = s4) ∧ I n5' n6' n7' n8' w ∧ μ n5' n6' n7' n8' w < m
theorem f83.J1_den (D : Nat → Value) (s18 : ByteArray) (n19 : Int) (k : Value → World → Prop) (w : World) : pc Tryz.prog none .none (codeAt f83.body [1, 0, 1, 1, 1, 1]) (f83.Q2 k) D 59 [58, 52] [.string s18, .int .i64 n19] [] w = f83.J1 s18 n19 k w := by kernel_rfl
theorem f83.J1_okc {k : Value → World → Prop} : okC Tryz.prog none .none (codeAt f83.body [1, 0, 1, 1, 1, 1]) (f83.Q2 k) :=
  Eq.mpr (by kernel_rfl : okC Tryz.prog none .none (codeAt f83.body [1, 0, 1, 1, 1, 1]) (f83.Q2 k) = (True)) (trivial)
theorem f83.J1_ok {k : Value → World → Prop} : OKJ Tryz.prog none (f83.J1p k) (codeAt f83.body [1, 0, 1, 1, 1, 1]) (f83.Q2 k) := by
  intro a w h
  obtain ⟨D, us, ds, rfl, h0⟩ := PJ_out h
  obtain ⟨v, us, rfl, h1⟩ := un_out h0
  obtain ⟨s18, rfl, h2⟩ := asStr_out h1
  obtain ⟨v, us, rfl, h3⟩ := un_out h2
  obtain ⟨n19, rfl, h4⟩ := asI_out h3
  obtain ⟨rfl, h5⟩ := nl_out h4
  obtain ⟨rfl, h6⟩ := dn_out h5
  rw [← f83.J1_den D s18 n19 k w] at h6
  exact pc_wp Tryz.mixed f83.J1_okc h6
theorem f83.L2_next {s3 : ByteArray} {s4 : ByteArray} {I : Int → Int → Int → Int → World → Prop} {μ : Int → Int → Int → Int → World → Nat} {m : Nat} {n5 : Int} {n6 : Int} {n7 : Int} {n8 : Int} {w : World} (hI : I n5 n6 n7 n8 w) (hlt : μ n5 n6 n7 n8 w < m) : f83.L2K s3 s4 I μ m s3 s4 n5 n6 n7 n8 w := ⟨⟨rfl, rfl⟩, hI, hlt⟩
theorem f83.L2_den (D : Nat → Value) (s3 : ByteArray) (s4 : ByteArray) (n5 : Int) (n6 : Int) (n7 : Int) (n8 : Int) (Kn1 : ByteArray → ByteArray → Int → Int → Int → Int → World → Prop) (k : Value → World → Prop) (w : World) : pc Tryz.prog none .none (codeAt f83.body [1, 0, 1, 1, 1, 0, 0, 0]) (Exit.then (f83.L2k Kn1) (f83.Q1 k)) D 59 [58, 57, 53, 52, 51, 50] [.string s3, .string s4, .int .i64 n5, .int .i64 n6, .int .i64 n7, .int .i64 n8] [] w = f83.L2 s3 s4 n5 n6 n7 n8 Kn1 k w := by kernel_rfl
theorem f83.L2_okc {Kn1 : ByteArray → ByteArray → Int → Int → Int → Int → World → Prop} {k : Value → World → Prop} : okC Tryz.prog none .none (codeAt f83.body [1, 0, 1, 1, 1, 0, 0, 0]) (Exit.then (f83.L2k Kn1) (f83.Q1 k)) :=
  Eq.mpr (by kernel_rfl : okC Tryz.prog none .none (codeAt f83.body [1, 0, 1, 1, 1, 0, 0, 0]) (Exit.then (f83.L2k Kn1) (f83.Q1 k)) = (True)) (trivial)
theorem f83.L2_ok {k : Value → World → Prop} : OKJ Tryz.prog none (f83.L2p k) (codeAt f83.body [1, 0, 1, 1, 1, 0, 0]) (f83.Q1 k) := by
  intro a w h
  obtain ⟨D, us, ds, rfl, h0⟩ := PJ_out h
  obtain ⟨v, us, rfl, h1⟩ := un_out h0
  obtain ⟨s3, rfl, h2⟩ := asStr_out h1
  obtain ⟨v, us, rfl, h3⟩ := un_out h2
  obtain ⟨s4, rfl, h4⟩ := asStr_out h3
  obtain ⟨v, us, rfl, h5⟩ := un_out h4
  obtain ⟨n5, rfl, h6⟩ := asI_out h5
  obtain ⟨v, us, rfl, h7⟩ := un_out h6
  obtain ⟨n6, rfl, h8⟩ := asI_out h7
  obtain ⟨v, us, rfl, h9⟩ := un_out h8
  obtain ⟨n7, rfl, h10⟩ := asI_out h9
  obtain ⟨v, us, rfl, h11⟩ := un_out h10
  obtain ⟨n8, rfl, h12⟩ := asI_out h11
  obtain ⟨rfl, h13⟩ := nl_out h12
  obtain ⟨rfl, h14⟩ := dn_out h13
  rw [show (codeAt f83.body [1, 0, 1, 1, 1, 0, 0]) = Code.loop (codeAt f83.body [1, 0, 1, 1, 1, 0, 0, 0]) by kernel_rfl]
  exact h14 D
theorem f83.L2_rule {s3 : ByteArray} {s4 : ByteArray} {k : Value → World → Prop} (I : Int → Int → Int → Int → World → Prop) (μ : Int → Int → Int → Int → World → Nat) {n5 : Int} {n6 : Int} {n7 : Int} {n8 : Int} {w : World} (h0 : I n5 n6 n7 n8 w)
    (hr : ∀ (n5 : Int) (n6 : Int) (n7 : Int) (n8 : Int) (w : World), I n5 n6 n7 n8 w → f83.L2 s3 s4 n5 n6 n7 n8 (f83.L2K s3 s4 I μ (μ n5 n6 n7 n8 w)) k w) : f83.L2lp s3 s4 n5 n6 n7 n8 k w := by
  intro D0
  refine loop_ind (P := Tryz.prog) (fun m a w => ∃ n5 : Int, ∃ n6 : Int, ∃ n7 : Int, ∃ n8 : Int, ∃ D : Nat → Value, a = fr D 59 [58, 57, 53, 52, 51, 50] [.string s3, .string s4, .int .i64 n5, .int .i64 n6, .int .i64 n7, .int .i64 n8] [] ∧ I n5 n6 n7 n8 w ∧ μ n5 n6 n7 n8 w = m) ?_ (μ n5 n6 n7 n8 w) ⟨_, _, _, _, D0, rfl, h0, rfl⟩
  rintro m a w ⟨n5, n6, n7, n8, D, rfl, hI, rfl⟩
  have h := hr n5 n6 n7 n8 w hI
  rw [← f83.L2_den D s3 s4 n5 n6 n7 n8 (f83.L2K s3 s4 I μ (μ n5 n6 n7 n8 w)) k w] at h
  refine then_mono (pc_wp Tryz.mixed f83.L2_okc h) ?_
  clear h
  intro a w h
  obtain ⟨D, us, ds, rfl, h0⟩ := PJ_out h
  obtain ⟨v, us, rfl, h1⟩ := un_out h0
  obtain ⟨s3', rfl, h2⟩ := asStr_out h1
  obtain ⟨v, us, rfl, h3⟩ := un_out h2
  obtain ⟨s4', rfl, h4⟩ := asStr_out h3
  obtain ⟨v, us, rfl, h5⟩ := un_out h4
  obtain ⟨n5', rfl, h6⟩ := asI_out h5
  obtain ⟨v, us, rfl, h7⟩ := un_out h6
  obtain ⟨n6', rfl, h8⟩ := asI_out h7
  obtain ⟨v, us, rfl, h9⟩ := un_out h8
  obtain ⟨n7', rfl, h10⟩ := asI_out h9
  obtain ⟨v, us, rfl, h11⟩ := un_out h10
  obtain ⟨n8', rfl, h12⟩ := asI_out h11
  obtain ⟨rfl, h13⟩ := nl_out h12
  obtain ⟨rfl, h14⟩ := dn_out h13
  obtain ⟨⟨rfl, rfl⟩, hI, hlt⟩ := h14
  exact ⟨_, hlt, _, _, _, _, D, rfl, hI, rfl⟩
def f83.b (s1 : ByteArray) (s2 : ByteArray) (k : Value → World → Prop) (w : World) : Prop :=
  f83.L2lp s1 s2 0 0 (-1) 0 k w
theorem f83.den (s1 : ByteArray) (s2 : ByteArray) (k : Value → World → Prop) (w : World) : pc Tryz.prog none (.seq none .none (.scope (.seq none .none (.seq none .none (.seq none .none (.seq (some (f83.J1p k)) (.block (.at (f83.L2p k))) .none)))))) f83.body (retQ Tryz.prog [.tmp 4] k) (fun _ => undef) 59 [58, 57] [.string s1, .string s2] [] w = f83.b s1 s2 k w := by kernel_rfl
theorem f83.okc {k : Value → World → Prop} : okC Tryz.prog none (.seq none .none (.scope (.seq none .none (.seq none .none (.seq none .none (.seq (some (f83.J1p k)) (.block (.at (f83.L2p k))) .none)))))) f83.body (retQ Tryz.prog [.tmp 4] k) :=
  Eq.mpr (by kernel_rfl : okC Tryz.prog none (.seq none .none (.scope (.seq none .none (.seq none .none (.seq none .none (.seq (some (f83.J1p k)) (.block (.at (f83.L2p k))) .none)))))) f83.body (retQ Tryz.prog [.tmp 4] k) = (((True) ∧ (((True) ∧ (((True) ∧ (((True) ∧ (((OKJ Tryz.prog none (f83.L2p k) (codeAt f83.body [1, 0, 1, 1, 1, 0, 0]) (f83.Q1 k)) ∧ OKJ Tryz.prog none (f83.J1p k) (codeAt f83.body [1, 0, 1, 1, 1, 1]) (f83.Q2 k)))))))))))) (⟨trivial, ⟨trivial, ⟨trivial, ⟨trivial, ⟨f83.L2_ok, f83.J1_ok⟩⟩⟩⟩⟩)
theorem f83.call {s1 : ByteArray} {s2 : ByteArray} {k : Value → World → Prop} {w : World} (h : f83.b s1 s2 k w) : CALL Tryz.prog 83 #[.string s1, .string s2] k w :=
  calls_of_pc Tryz.mixed Tryz.func83 (by kernel_rfl : Tryz.f83.body = some f83.body) (Tryz.call83 _ _) (by kernel_rfl : #[.string s1, .string s2] ++ Array.replicate (Tryz.f83.ntmps - (#[.string s1, .string s2] : Array Value).size) undef = (FR (fun _ => undef) 59 [58, 57] [.string s1, .string s2]).toArray) (by kernel_rfl : Tryz.f83.results.toList = [.tmp 4]) f83.okc ((f83.den s1 s2 k w).symm ▸ h)

/-! slices.BinarySearch[[]int,int] -/
noncomputable def f86.body : Code := (Tryz.f86.body).getD .skip
def f86.J1 (l12 : Sl) (n13 : Int) (n14 : Int) (n15 : Int) (k : Value → World → Prop) (w : World) : Prop :=
  brK (decide (n15 < n14)) (IX l12 n15 1 (fun a16 => LD (Value.int .i64) a16 (fun n17 w => brK (n17 == n13) (k (.tuple #[.int .i64 n15, .bool true]) w) (IX l12 n15 1 (fun a18 => LD (Value.int .i64) a18 (fun n19 w => CALL Tryz.prog 112 #[.int .i64 n19] (fun v20 w => ∃ b21 : Bool, v20 = .bool b21 ∧ brK b21 (CALL Tryz.prog 112 #[.int .i64 n13] (fun v22 w => ∃ b23 : Bool, v22 = .bool b23 ∧ k (.tuple #[.int .i64 n15, .bool b23]) w) w) (k (.tuple #[.int .i64 n15, .bool false]) w)) w) w))) w)) (k (.tuple #[.int .i64 n15, .bool false]) w)
def f86.J1p (k : Value → World → Prop) : Act → World → Prop := PJ 54 [53, 52, 47, 46] fun us ds w => un us fun v us => asS v fun l12 => un us fun v us => asI .i64 v fun n13 => un us fun v us => asI .i64 v fun n14 => un us fun v us => asI .i64 v fun n15 => nl us (dn ds (f86.J1 l12 n13 n14 n15 k w))
def f86.Q1 (k : Value → World → Prop) : Exit → Act → World → Prop := (Exit.inBlock 0 (Exit.then (f86.J1p k) (retQ Tryz.prog [.tmp 4, .tmp 5] k)))
def f86.L2k (Kn1 : Sl → Int → Int → Int → Int → World → Prop) : Act → World → Prop := PJ 54 [53, 52, 47, 46, 45] fun us ds w => un us fun v us => asS v fun l3 => un us fun v us => asI .i64 v fun n4 => un us fun v us => asI .i64 v fun n5 => un us fun v us => asI .i64 v fun n6 => un us fun v us => asI .i64 v fun n7 => nl us (dn ds (Kn1 l3 n4 n5 n6 n7 w))
def f86.Q2 (k : Value → World → Prop) : Exit → Act → World → Prop := (retQ Tryz.prog [.tmp 4, .tmp 5] k)
def f86.L2 (l3 : Sl) (n4 : Int) (n5 : Int) (n6 : Int) (n7 : Int) (Kn1 : Sl → Int → Int → Int → Int → World → Prop) (k : Value → World → Prop) (w : World) : Prop :=
  brK (decide (n6 < n7)) (RQ ((0 : Int) ≤ 1) (IX l3 (IntKind.wrap .i64 (Int.fdiv (IntKind.wrap .u64 (IntKind.wrap .i64 (n6 + n7))) (2 ^ (min (Int.toNat 1) (IntKind.bits .u64))))) 1 (fun a8 => LD (Value.int .i64) a8 (fun n9 w => CALL Tryz.prog 111 #[.int .i64 n9, .int .i64 n4] (fun v10 w => ∃ b11 : Bool, v10 = .bool b11 ∧ brK b11 (Kn1 l3 n4 n5 (IntKind.wrap .i64 ((IntKind.wrap .i64 (Int.fdiv (IntKind.wrap .u64 (IntKind.wrap .i64 (n6 + n7))) (2 ^ (min (Int.toNat 1) (IntKind.bits .u64))))) + 1)) n7 w) (Kn1 l3 n4 n5 n6 (IntKind.wrap .i64 (Int.fdiv (IntKind.wrap .u64 (IntKind.wrap .i64 (n6 + n7))) (2 ^ (min (Int.toNat 1) (IntKind.bits .u64))))) w)) w) w))) (f86.J1 l3 n4 n5 n6 k w)
def f86.L2lp (l3 : Sl) (n4 : Int) (n5 : Int) (n6 : Int) (n7 : Int) (k : Value → World → Prop) (w : World) : Prop := ∀ D : Nat → Value, (Code.loop (codeAt f86.body [1, 1, 1, 0, 0, 0])).wpIn (Wd none) 0 Tryz.prog (f86.Q1 k) (fr D 54 [53, 52, 47, 46, 45] [slv l3, .int .i64 n4, .int .i64 n5, .int .i64 n6, .int .i64 n7] []) w
def f86.L2p (k : Value → World → Prop) : Act → World → Prop := PJ 54 [53, 52, 47, 46, 45] fun us ds w => un us fun v us => asS v fun l3 => un us fun v us => asI .i64 v fun n4 => un us fun v us => asI .i64 v fun n5 => un us fun v us => asI .i64 v fun n6 => un us fun v us => asI .i64 v fun n7 => nl us (dn ds (f86.L2lp l3 n4 n5 n6 n7 k w))
def f86.L2K (l3 : Sl) (n4 : Int) (n5 : Int) (I : Int → Int → World → Prop) (μ : Int → Int → World → Nat) (m : Nat) (l3' : Sl) (n4' : Int) (n5' : Int) (n6' : Int) (n7' : Int) (w : World) : Prop := (l3' = l3 ∧ n4' = n4 ∧ n5' = n5) ∧ I n6' n7' w ∧ μ n6' n7' w < m
theorem f86.J1_den (D : Nat → Value) (l12 : Sl) (n13 : Int) (n14 : Int) (n15 : Int) (k : Value → World → Prop) (w : World) : pc Tryz.prog none .none (codeAt f86.body [1, 1, 1, 1]) (f86.Q2 k) D 54 [53, 52, 47, 46] [slv l12, .int .i64 n13, .int .i64 n14, .int .i64 n15] [] w = f86.J1 l12 n13 n14 n15 k w := by kernel_rfl
theorem f86.J1_okc {k : Value → World → Prop} : okC Tryz.prog none .none (codeAt f86.body [1, 1, 1, 1]) (f86.Q2 k) :=
  Eq.mpr (by kernel_rfl : okC Tryz.prog none .none (codeAt f86.body [1, 1, 1, 1]) (f86.Q2 k) = (True)) (trivial)
theorem f86.J1_ok {k : Value → World → Prop} : OKJ Tryz.prog none (f86.J1p k) (codeAt f86.body [1, 1, 1, 1]) (f86.Q2 k) := by
  intro a w h
  obtain ⟨D, us, ds, rfl, h0⟩ := PJ_out h
  obtain ⟨v, us, rfl, h1⟩ := un_out h0
  obtain ⟨l12, rfl, h2⟩ := asS_out h1
  obtain ⟨v, us, rfl, h3⟩ := un_out h2
  obtain ⟨n13, rfl, h4⟩ := asI_out h3
  obtain ⟨v, us, rfl, h5⟩ := un_out h4
  obtain ⟨n14, rfl, h6⟩ := asI_out h5
  obtain ⟨v, us, rfl, h7⟩ := un_out h6
  obtain ⟨n15, rfl, h8⟩ := asI_out h7
  obtain ⟨rfl, h9⟩ := nl_out h8
  obtain ⟨rfl, h10⟩ := dn_out h9
  rw [← f86.J1_den D l12 n13 n14 n15 k w] at h10
  exact pc_wp Tryz.mixed f86.J1_okc h10
theorem f86.L2_next {l3 : Sl} {n4 : Int} {n5 : Int} {I : Int → Int → World → Prop} {μ : Int → Int → World → Nat} {m : Nat} {n6 : Int} {n7 : Int} {w : World} (hI : I n6 n7 w) (hlt : μ n6 n7 w < m) : f86.L2K l3 n4 n5 I μ m l3 n4 n5 n6 n7 w := ⟨⟨rfl, rfl, rfl⟩, hI, hlt⟩
theorem f86.L2_den (D : Nat → Value) (l3 : Sl) (n4 : Int) (n5 : Int) (n6 : Int) (n7 : Int) (Kn1 : Sl → Int → Int → Int → Int → World → Prop) (k : Value → World → Prop) (w : World) : pc Tryz.prog none .none (codeAt f86.body [1, 1, 1, 0, 0, 0]) (Exit.then (f86.L2k Kn1) (f86.Q1 k)) D 54 [53, 52, 47, 46, 45] [slv l3, .int .i64 n4, .int .i64 n5, .int .i64 n6, .int .i64 n7] [] w = f86.L2 l3 n4 n5 n6 n7 Kn1 k w := by kernel_rfl
theorem f86.L2_okc {Kn1 : Sl → Int → Int → Int → Int → World → Prop} {k : Value → World → Prop} : okC Tryz.prog none .none (codeAt f86.body [1, 1, 1, 0, 0, 0]) (Exit.then (f86.L2k Kn1) (f86.Q1 k)) :=
  Eq.mpr (by kernel_rfl : okC Tryz.prog none .none (codeAt f86.body [1, 1, 1, 0, 0, 0]) (Exit.then (f86.L2k Kn1) (f86.Q1 k)) = (True)) (trivial)
theorem f86.L2_ok {k : Value → World → Prop} : OKJ Tryz.prog none (f86.L2p k) (codeAt f86.body [1, 1, 1, 0, 0]) (f86.Q1 k) := by
  intro a w h
  obtain ⟨D, us, ds, rfl, h0⟩ := PJ_out h
  obtain ⟨v, us, rfl, h1⟩ := un_out h0
  obtain ⟨l3, rfl, h2⟩ := asS_out h1
  obtain ⟨v, us, rfl, h3⟩ := un_out h2
  obtain ⟨n4, rfl, h4⟩ := asI_out h3
  obtain ⟨v, us, rfl, h5⟩ := un_out h4
  obtain ⟨n5, rfl, h6⟩ := asI_out h5
  obtain ⟨v, us, rfl, h7⟩ := un_out h6
  obtain ⟨n6, rfl, h8⟩ := asI_out h7
  obtain ⟨v, us, rfl, h9⟩ := un_out h8
  obtain ⟨n7, rfl, h10⟩ := asI_out h9
  obtain ⟨rfl, h11⟩ := nl_out h10
  obtain ⟨rfl, h12⟩ := dn_out h11
  rw [show (codeAt f86.body [1, 1, 1, 0, 0]) = Code.loop (codeAt f86.body [1, 1, 1, 0, 0, 0]) by kernel_rfl]
  exact h12 D
theorem f86.L2_rule {l3 : Sl} {n4 : Int} {n5 : Int} {k : Value → World → Prop} (I : Int → Int → World → Prop) (μ : Int → Int → World → Nat) {n6 : Int} {n7 : Int} {w : World} (h0 : I n6 n7 w)
    (hr : ∀ (n6 : Int) (n7 : Int) (w : World), I n6 n7 w → f86.L2 l3 n4 n5 n6 n7 (f86.L2K l3 n4 n5 I μ (μ n6 n7 w)) k w) : f86.L2lp l3 n4 n5 n6 n7 k w := by
  intro D0
  refine loop_ind (P := Tryz.prog) (fun m a w => ∃ n6 : Int, ∃ n7 : Int, ∃ D : Nat → Value, a = fr D 54 [53, 52, 47, 46, 45] [slv l3, .int .i64 n4, .int .i64 n5, .int .i64 n6, .int .i64 n7] [] ∧ I n6 n7 w ∧ μ n6 n7 w = m) ?_ (μ n6 n7 w) ⟨_, _, D0, rfl, h0, rfl⟩
  rintro m a w ⟨n6, n7, D, rfl, hI, rfl⟩
  have h := hr n6 n7 w hI
  rw [← f86.L2_den D l3 n4 n5 n6 n7 (f86.L2K l3 n4 n5 I μ (μ n6 n7 w)) k w] at h
  refine then_mono (pc_wp Tryz.mixed f86.L2_okc h) ?_
  clear h
  intro a w h
  obtain ⟨D, us, ds, rfl, h0⟩ := PJ_out h
  obtain ⟨v, us, rfl, h1⟩ := un_out h0
  obtain ⟨l3', rfl, h2⟩ := asS_out h1
  obtain ⟨v, us, rfl, h3⟩ := un_out h2
  obtain ⟨n4', rfl, h4⟩ := asI_out h3
  obtain ⟨v, us, rfl, h5⟩ := un_out h4
  obtain ⟨n5', rfl, h6⟩ := asI_out h5
  obtain ⟨v, us, rfl, h7⟩ := un_out h6
  obtain ⟨n6', rfl, h8⟩ := asI_out h7
  obtain ⟨v, us, rfl, h9⟩ := un_out h8
  obtain ⟨n7', rfl, h10⟩ := asI_out h9
  obtain ⟨rfl, h11⟩ := nl_out h10
  obtain ⟨rfl, h12⟩ := dn_out h11
  obtain ⟨⟨rfl, rfl, rfl⟩, hI, hlt⟩ := h12
  exact ⟨_, hlt, _, _, D, rfl, hI, rfl⟩
def f86.b (l1 : Sl) (n2 : Int) (k : Value → World → Prop) (w : World) : Prop :=
  f86.L2lp l1 n2 ((l1.2.1 : Nat) : Int) 0 ((l1.2.1 : Nat) : Int) k w
theorem f86.den (l1 : Sl) (n2 : Int) (k : Value → World → Prop) (w : World) : pc Tryz.prog none (.seq none .none (.seq none .none (.seq none .none (.seq (some (f86.J1p k)) (.block (.at (f86.L2p k))) .none)))) f86.body (retQ Tryz.prog [.tmp 4, .tmp 5] k) (fun _ => undef) 54 [53, 52] [slv l1, .int .i64 n2] [] w = f86.b l1 n2 k w := by kernel_rfl
theorem f86.okc {k : Value → World → Prop} : okC Tryz.prog none (.seq none .none (.seq none .none (.seq none .none (.seq (some (f86.J1p k)) (.block (.at (f86.L2p k))) .none)))) f86.body (retQ Tryz.prog [.tmp 4, .tmp 5] k) :=
  Eq.mpr (by kernel_rfl : okC Tryz.prog none (.seq none .none (.seq none .none (.seq none .none (.seq (some (f86.J1p k)) (.block (.at (f86.L2p k))) .none)))) f86.body (retQ Tryz.prog [.tmp 4, .tmp 5] k) = (((True) ∧ (((True) ∧ (((True) ∧ (((OKJ Tryz.prog none (f86.L2p k) (codeAt f86.body [1, 1, 1, 0, 0]) (f86.Q1 k)) ∧ OKJ Tryz.prog none (f86.J1p k) (codeAt f86.body [1, 1, 1, 1]) (f86.Q2 k)))))))))) (⟨trivial, ⟨trivial, ⟨trivial, ⟨f86.L2_ok, f86.J1_ok⟩⟩⟩⟩)
theorem f86.call {l1 : Sl} {n2 : Int} {k : Value → World → Prop} {w : World} (h : f86.b l1 n2 k w) : CALL Tryz.prog 86 #[slv l1, .int .i64 n2] k w :=
  calls_of_pc Tryz.mixed Tryz.func86 (by kernel_rfl : Tryz.f86.body = some f86.body) (Tryz.call86 _ _) (by kernel_rfl : #[slv l1, .int .i64 n2] ++ Array.replicate (Tryz.f86.ntmps - (#[slv l1, .int .i64 n2] : Array Value).size) undef = (FR (fun _ => undef) 54 [53, 52] [slv l1, .int .i64 n2]).toArray) (by kernel_rfl : Tryz.f86.results.toList = [.tmp 4, .tmp 5]) f86.okc ((f86.den l1 n2 k w).symm ▸ h)

/-! slices.Delete[[]int,int] -/
noncomputable def f87.body : Code := (Tryz.f87.body).getD .skip
def f87.b (l1 : Sl) (n2 : Int) (n3 : Int) (k : Value → World → Prop) (w : World) : Prop :=
  RQ (0 ≤ (((l1.2.1 : Nat) : Int) : Int) ∧ (((l1.2.1 : Nat) : Int) : Int) ≤ ((l1.2.2 : Nat) : Int)) (RQ (0 ≤ (n3 : Int) ∧ (n3 : Int) ≤ (((((l1.2.1 : Nat) : Int) : Int).toNat : Nat) : Int)) (RQ (0 ≤ (n2 : Int) ∧ (n2 : Int) ≤ (((n3 : Int).toNat : Nat) : Int)) (brK (n2 == n3) (k (slv l1) w) (DR (fun w => RQ (0 ≤ (n2 : Int) ∧ (n2 : Int) ≤ ((l1.2.2 : Nat) : Int)) (RQ (0 ≤ (n3 : Int) ∧ (n3 : Int) ≤ ((l1.2.1 : Nat) : Int)) (APP 3 1 8 #[.int .i64 0] (slSub l1 0 ((n2 : Int).toNat) 1) ((slSub l1 ((n3 : Int).toNat) l1.2.1 1).2.1) (fun w => cellsOfS w (slSub l1 ((n3 : Int).toNat) l1.2.1 1) (((slSub l1 ((n3 : Int).toNat) l1.2.1 1).2.1) * 1)) (fun l4 w => RQ (0 ≤ (((l1.2.1 : Nat) : Int) : Int) ∧ (((l1.2.1 : Nat) : Int) : Int) ≤ ((l4.2.2 : Nat) : Int)) (RQ (0 ≤ (((l4.2.1 : Nat) : Int) : Int) ∧ (((l4.2.1 : Nat) : Int) : Int) ≤ (((((l1.2.1 : Nat) : Int) : Int).toNat : Nat) : Int)) (CLR #[.int .i64 0] (slSub l4 ((((l4.2.1 : Nat) : Int) : Int).toNat) ((((l1.2.1 : Nat) : Int) : Int).toNat) 1) (fun w => k (slv l4) w) w))) w))) w))))
theorem f87.den (l1 : Sl) (n2 : Int) (n3 : Int) (k : Value → World → Prop) (w : World) : pc Tryz.prog none .none f87.body (retQ Tryz.prog [.tmp 6] k) (fun _ => undef) 33 [32, 31, 30] [slv l1, .int .i64 n2, .int .i64 n3] [] w = f87.b l1 n2 n3 k w := by kernel_rfl
theorem f87.okc {k : Value → World → Prop} : okC Tryz.prog none .none f87.body (retQ Tryz.prog [.tmp 6] k) :=
  Eq.mpr (by kernel_rfl : okC Tryz.prog none .none f87.body (retQ Tryz.prog [.tmp 6] k) = (True)) (trivial)
theorem f87.call {l1 : Sl} {n2 : Int} {n3 : Int} {k : Value → World → Prop} {w : World} (h : f87.b l1 n2 n3 k w) : CALL Tryz.prog 87 #[slv l1, .int .i64 n2, .int .i64 n3] k w :=
  calls_of_pc Tryz.mixed Tryz.func87 (by kernel_rfl : Tryz.f87.body = some f87.body) (Tryz.call87 _ _) (by kernel_rfl : #[slv l1, .int .i64 n2, .int .i64 n3] ++ Array.replicate (Tryz.f87.ntmps - (#[slv l1, .int .i64 n2, .int .i64 n3] : Array Value).size) undef = (FR (fun _ => undef) 33 [32, 31, 30] [slv l1, .int .i64 n2, .int .i64 n3]).toArray) (by kernel_rfl : Tryz.f87.results.toList = [.tmp 6]) f87.okc ((f87.den l1 n2 n3 k w).symm ▸ h)

/-! (*strings.Builder).Len -/
noncomputable def f89.body : Code := (Tryz.f89.body).getD .skip
def f89.b (p1 : Option Addr) (k : Value → World → Prop) (w : World) : Prop :=
  NN p1 (fun a2 => LD slv (Addr.add a2 1) (fun l3 w => k (.int .i64 ((l3.2.1 : Nat) : Int)) w) w)
theorem f89.den (p1 : Option Addr) (k : Value → World → Prop) (w : World) : pc Tryz.prog none .none f89.body (retQ Tryz.prog [.tmp 2] k) (fun _ => undef) 8 [7] [.pointer p1] [] w = f89.b p1 k w := by kernel_rfl
theorem f89.okc {k : Value → World → Prop} : okC Tryz.prog none .none f89.body (retQ Tryz.prog [.tmp 2] k) :=
  Eq.mpr (by kernel_rfl : okC Tryz.prog none .none f89.body (retQ Tryz.prog [.tmp 2] k) = (True)) (trivial)
theorem f89.call {p1 : Option Addr} {k : Value → World → Prop} {w : World} (h : f89.b p1 k w) : CALL Tryz.prog 89 #[.pointer p1] k w :=
  calls_of_pc Tryz.mixed Tryz.func89 (by kernel_rfl : Tryz.f89.body = some f89.body) (Tryz.call89 _ _) (by kernel_rfl : #[.pointer p1] ++ Array.replicate (Tryz.f89.ntmps - (#[.pointer p1] : Array Value).size) undef = (FR (fun _ => undef) 8 [7] [.pointer p1]).toArray) (by kernel_rfl : Tryz.f89.results.toList = [.tmp 2]) f89.okc ((f89.den p1 k w).symm ▸ h)

/-! (*strings.Builder).WriteByte -/
noncomputable def f90.body : Code := (Tryz.f90.body).getD .skip
def f90.b (p1 : Option Addr) (n2 : Int) (k : Value → World → Prop) (w : World) : Prop :=
  CALL Tryz.prog 115 #[.pointer p1] (fun v3 w => v3 = .tuple #[] ∧ NN p1 (fun a4 => LD slv (Addr.add a4 1) (fun l5 w => AL (.cells #[.int .u8 n2] 5) (fun q6 w => APP 5 1 1 #[.int .u8 0] l5 1 (fun w => cellsOfS w ((some ⟨q6, 0, none⟩), 1, 1) (1 * 1)) (fun l7 w => NN p1 (fun a8 => ST (Addr.add (Addr.add a8 1) 0) (slv l7) (fun w => k (.nilIface) w) w)) w) w) w)) w
theorem f90.den (p1 : Option Addr) (n2 : Int) (k : Value → World → Prop) (w : World) : pc Tryz.prog none .none f90.body (retQ Tryz.prog [.tmp 4] k) (fun _ => undef) 17 [16, 15] [.pointer p1, .int .u8 n2] [] w = f90.b p1 n2 k w := by kernel_rfl
theorem f90.okc {k : Value → World → Prop} : okC Tryz.prog none .none f90.body (retQ Tryz.prog [.tmp 4] k) :=
  Eq.mpr (by kernel_rfl : okC Tryz.prog none .none f90.body (retQ Tryz.prog [.tmp 4] k) = (True)) (trivial)
theorem f90.call {p1 : Option Addr} {n2 : Int} {k : Value → World → Prop} {w : World} (h : f90.b p1 n2 k w) : CALL Tryz.prog 90 #[.pointer p1, .int .u8 n2] k w :=
  calls_of_pc Tryz.mixed Tryz.func90 (by kernel_rfl : Tryz.f90.body = some f90.body) (Tryz.call90 _ _) (by kernel_rfl : #[.pointer p1, .int .u8 n2] ++ Array.replicate (Tryz.f90.ntmps - (#[.pointer p1, .int .u8 n2] : Array Value).size) undef = (FR (fun _ => undef) 17 [16, 15] [.pointer p1, .int .u8 n2]).toArray) (by kernel_rfl : Tryz.f90.results.toList = [.tmp 4]) f90.okc ((f90.den p1 n2 k w).symm ▸ h)

/-! (*strings.Builder).String -/
noncomputable def f91.body : Code := (Tryz.f91.body).getD .skip
def f91.b (p1 : Option Addr) (k : Value → World → Prop) (w : World) : Prop :=
  DRC (fun C w => NN p1 (fun a2 => STL C slv (Addr.add a2 1) (fun l3 => NN p1 (fun a4 => STL C slv (Addr.add a4 1) (fun l5 => ∃ n6 : Int, (∀ w', C w' → (fun w => (.int .i64 ((l5.2.1 : Nat) : Int) : Value) = .int .i64 n6 ∧ w = w') w') ∧ RV Tryz.prog (Builtin.unsafeSliceData_ #[70] 138 #[slv l3]) (fun v7 w => ∃ p8 : Option Addr, v7 = .pointer p8 ∧ C w ∧ RV Tryz.prog (Builtin.unsafeString_ #[138, 3] 9 #[.pointer p8, .int .i64 n6]) (fun v9 w => ∃ s10 : ByteArray, v9 = .string s10 ∧ k (.string s10) w) w) w))))) w
theorem f91.den (p1 : Option Addr) (k : Value → World → Prop) (w : World) : pc Tryz.prog none .none f91.body (retQ Tryz.prog [.tmp 2] k) (fun _ => undef) 14 [13] [.pointer p1] [] w = f91.b p1 k w := by kernel_rfl
theorem f91.okc {k : Value → World → Prop} : okC Tryz.prog none .none f91.body (retQ Tryz.prog [.tmp 2] k) :=
  Eq.mpr (by kernel_rfl : okC Tryz.prog none .none f91.body (retQ Tryz.prog [.tmp 2] k) = (True)) (trivial)
theorem f91.call {p1 : Option Addr} {k : Value → World → Prop} {w : World} (h : f91.b p1 k w) : CALL Tryz.prog 91 #[.pointer p1] k w :=
  calls_of_pc Tryz.mixed Tryz.func91 (by kernel_rfl : Tryz.f91.body = some f91.body) (Tryz.call91 _ _) (by kernel_rfl : #[.pointer p1] ++ Array.replicate (Tryz.f91.ntmps - (#[.pointer p1] : Array Value).size) undef = (FR (fun _ => undef) 14 [13] [.pointer p1]).toArray) (by kernel_rfl : Tryz.f91.results.toList = [.tmp 2]) f91.okc ((f91.den p1 k w).symm ▸ h)

/-! slices.Insert[[]int,int] -/
noncomputable def f92.body : Code := (Tryz.f92.body).getD .skip
def f92.b (l1 : Sl) (n2 : Int) (l3 : Sl) (k : Value → World → Prop) (w : World) : Prop :=
  RQ (0 ≤ (n2 : Int) ∧ (n2 : Int) ≤ ((l1.2.1 : Nat) : Int)) (brK (((l3.2.1 : Nat) : Int) == 0) (k (slv l1) w) (brK (n2 == ((l1.2.1 : Nat) : Int)) (APP 3 1 8 #[.int .i64 0] l1 l3.2.1 (fun w => cellsOfS w l3 (l3.2.1 * 1)) (fun l4 w => k (slv l4) w) w) (brK (decide (((l1.2.2 : Nat) : Int) < (IntKind.wrap .i64 (((l1.2.1 : Nat) : Int) + ((l3.2.1 : Nat) : Int))))) (RQ (0 ≤ (n2 : Int) ∧ (n2 : Int) ≤ ((l1.2.2 : Nat) : Int)) (RQ (0 ≤ (IntKind.wrap .i64 ((IntKind.wrap .i64 (((l1.2.1 : Nat) : Int) + ((l3.2.1 : Nat) : Int))) - n2) : Int) ∧ (IntKind.wrap .i64 ((IntKind.wrap .i64 (((l1.2.1 : Nat) : Int) + ((l3.2.1 : Nat) : Int))) - n2) : Int) ≤ 9223372036854775807 ∧ IntKind.i64 = .i64 ∧ (IntKind.wrap .i64 ((IntKind.wrap .i64 (((l1.2.1 : Nat) : Int) + ((l3.2.1 : Nat) : Int))) - n2) : Int) * ((8 : Nat) : Int) ≤ 281474976710656 ∧ (1 : Nat) ≠ 0 ∧ (((slSub l1 0 ((n2 : Int).toNat) 1).2.1 : Nat) : Int) + (IntKind.wrap .i64 ((IntKind.wrap .i64 (((l1.2.1 : Nat) : Int) + ((l3.2.1 : Nat) : Int))) - n2) : Int) ≤ 9223372036854775807) (APP 3 1 8 #[.int .i64 0] (slSub l1 0 ((n2 : Int).toNat) 1) (Int.toNat (IntKind.wrap .i64 ((IntKind.wrap .i64 (((l1.2.1 : Nat) : Int) + ((l3.2.1 : Nat) : Int))) - n2) : Int)) (fun _ => some (zeroCellsL #[.int .i64 0] (Int.toNat (IntKind.wrap .i64 ((IntKind.wrap .i64 (((l1.2.1 : Nat) : Int) + ((l3.2.1 : Nat) : Int))) - n2) : Int)))) (fun l5 w => RQ (0 ≤ (n2 : Int) ∧ (n2 : Int) ≤ ((l5.2.1 : Nat) : Int)) (CPY 1 (slSub l5 ((n2 : Int).toNat) l5.2.1 1) l3 (fun n6 w => DR (fun w => RQ (0 ≤ (IntKind.wrap .i64 (n2 + ((l3.2.1 : Nat) : Int)) : Int) ∧ (IntKind.wrap .i64 (n2 + ((l3.2.1 : Nat) : Int)) : Int) ≤ ((l5.2.1 : Nat) : Int)) (RQ (0 ≤ (n2 : Int) ∧ (n2 : Int) ≤ ((l1.2.1 : Nat) : Int)) (CPY 1 (slSub l5 ((IntKind.wrap .i64 (n2 + ((l3.2.1 : Nat) : Int)) : Int).toNat) l5.2.1 1) (slSub l1 ((n2 : Int).toNat) l1.2.1 1) (fun n7 w => k (slv l5) w) w))) w) w)) w))) (RQ (0 ≤ (IntKind.wrap .i64 (((l1.2.1 : Nat) : Int) + ((l3.2.1 : Nat) : Int)) : Int) ∧ (IntKind.wrap .i64 (((l1.2.1 : Nat) : Int) + ((l3.2.1 : Nat) : Int)) : Int) ≤ ((l1.2.2 : Nat) : Int)) (RQ (0 ≤ (IntKind.wrap .i64 (n2 + ((l3.2.1 : Nat) : Int)) : Int) ∧ (IntKind.wrap .i64 (n2 + ((l3.2.1 : Nat) : Int)) : Int) ≤ (((slSub l1 0 ((IntKind.wrap .i64 (((l1.2.1 : Nat) : Int) + ((l3.2.1 : Nat) : Int)) : Int).toNat) 1).2.1 : Nat) : Int)) (CALL Tryz.prog 116 #[slv l3, slv (slSub (slSub l1 0 ((IntKind.wrap .i64 (((l1.2.1 : Nat) : Int) + ((l3.2.1 : Nat) : Int)) : Int).toNat) 1) ((IntKind.wrap .i64 (n2 + ((l3.2.1 : Nat) : Int)) : Int).toNat) ((slSub l1 0 ((IntKind.wrap .i64 (((l1.2.1 : Nat) : Int) + ((l3.2.1 : Nat) : Int)) : Int).toNat) 1).2.1) 1)] (fun v8 w => ∃ b9 : Bool, v8 = .bool b9 ∧ brK (!b9) (DR (fun w => RQ (0 ≤ (IntKind.wrap .i64 (n2 + ((l3.2.1 : Nat) : Int)) : Int) ∧ (IntKind.wrap .i64 (n2 + ((l3.2.1 : Nat) : Int)) : Int) ≤ (((slSub l1 0 ((IntKind.wrap .i64 (((l1.2.1 : Nat) : Int) + ((l3.2.1 : Nat) : Int)) : Int).toNat) 1).2.1 : Nat) : Int)) (RQ (0 ≤ (n2 : Int) ∧ (n2 : Int) ≤ (((slSub l1 0 ((IntKind.wrap .i64 (((l1.2.1 : Nat) : Int) + ((l3.2.1 : Nat) : Int)) : Int).toNat) 1).2.1 : Nat) : Int)) (CPY 1 (slSub (slSub l1 0 ((IntKind.wrap .i64 (((l1.2.1 : Nat) : Int) + ((l3.2.1 : Nat) : Int)) : Int).toNat) 1) ((IntKind.wrap .i64 (n2 + ((l3.2.1 : Nat) : Int)) : Int).toNat) ((slSub l1 0 ((IntKind.wrap .i64 (((l1.2.1 : Nat) : Int) + ((l3.2.1 : Nat) : Int)) : Int).toNat) 1).2.1) 1) (slSub (slSub l1 0 ((IntKind.wrap .i64 (((l1.2.1 : Nat) : Int) + ((l3.2.1 : Nat) : Int)) : Int).toNat) 1) ((n2 : Int).toNat) ((slSub l1 0 ((IntKind.wrap .i64 (((l1.2.1 : Nat) : Int) + ((l3.2.1 : Nat) : Int)) : Int).toNat) 1).2.1) 1) (fun n10 w => RQ (0 ≤ (n2 : Int) ∧ (n2 : Int) ≤ (((slSub l1 0 ((IntKind.wrap .i64 (((l1.2.1 : Nat) : Int) + ((l3.2.1 : Nat) : Int)) : Int).toNat) 1).2.1 : Nat) : Int)) (CPY 1 (slSub (slSub l1 0 ((IntKind.wrap .i64 (((l1.2.1 : Nat) : Int) + ((l3.2.1 : Nat) : Int)) : Int).toNat) 1) ((n2 : Int).toNat) ((slSub l1 0 ((IntKind.wrap .i64 (((l1.2.1 : Nat) : Int) + ((l3.2.1 : Nat) : Int)) : Int).toNat) 1).2.1) 1) l3 (fun n11 w => k (slv (slSub l1 0 ((IntKind.wrap .i64 (((l1.2.1 : Nat) : Int) + ((l3.2.1 : Nat) : Int)) : Int).toNat) 1)) w) w)) w))) w) (RQ (0 ≤ (((l1.2.1 : Nat) : Int) : Int) ∧ (((l1.2.1 : Nat) : Int) : Int) ≤ (((slSub l1 0 ((IntKind.wrap .i64 (((l1.2.1 : Nat) : Int) + ((l3.2.1 : Nat) : Int)) : Int).toNat) 1).2.1 : Nat) : Int)) (CPY 1 (slSub (slSub l1 0 ((IntKind.wrap .i64 (((l1.2.1 : Nat) : Int) + ((l3.2.1 : Nat) : Int)) : Int).toNat) 1) ((((l1.2.1 : Nat) : Int) : Int).toNat) ((slSub l1 0 ((IntKind.wrap .i64 (((l1.2.1 : Nat) : Int) + ((l3.2.1 : Nat) : Int)) : Int).toNat) 1).2.1) 1) l3 (fun n12 w => RQ (0 ≤ (n2 : Int) ∧ (n2 : Int) ≤ (((slSub l1 0 ((IntKind.wrap .i64 (((l1.2.1 : Nat) : Int) + ((l3.2.1 : Nat) : Int)) : Int).toNat) 1).2.1 : Nat) : Int)) (CALL Tryz.prog 117 #[slv (slSub (slSub l1 0 ((IntKind.wrap .i64 (((l1.2.1 : Nat) : Int) + ((l3.2.1 : Nat) : Int)) : Int).toNat) 1) ((n2 : Int).toNat) ((slSub l1 0 ((IntKind.wrap .i64 (((l1.2.1 : Nat) : Int) + ((l3.2.1 : Nat) : Int)) : Int).toNat) 1).2.1) 1), .int .i64 ((l3.2.1 : Nat) : Int)] (fun v13 w => v13 = .tuple #[] ∧ k (slv (slSub l1 0 ((IntKind.wrap .i64 (((l1.2.1 : Nat) : Int) + ((l3.2.1 : Nat) : Int)) : Int).toNat) 1)) w) w)) w))) w))))))
theorem f92.den (l1 : Sl) (n2 : Int) (l3 : Sl) (k : Value → World → Prop) (w : World) : pc Tryz.prog none .none f92.body (retQ Tryz.prog [.tmp 6] k) (fun _ => undef) 95 [94, 93, 92] [slv l1, .int .i64 n2, slv l3] [] w = f92.b l1 n2 l3 k w := by kernel_rfl
theorem f92.okc {k : Value → World → Prop} : okC Tryz.prog none .none f92.body (retQ Tryz.prog [.tmp 6] k) :=
  Eq.mpr (by kernel_rfl : okC Tryz.prog none .none f92.body (retQ Tryz.prog [.tmp 6] k) = (True)) (trivial)
theorem f92.call {l1 : Sl} {n2 : Int} {l3 : Sl} {k : Value → World → Prop} {w : World} (h : f92.b l1 n2 l3 k w) : CALL Tryz.prog 92 #[slv l1, .int .i64 n2, slv l3] k w :=
  calls_of_pc Tryz.mixed Tryz.func92 (by kernel_rfl : Tryz.f92.body = some f92.body) (Tryz.call92 _ _) (by kernel_rfl : #[slv l1, .int .i64 n2, slv l3] ++ Array.replicate (Tryz.f92.ntmps - (#[slv l1, .int .i64 n2, slv l3] : Array Value).size) undef = (FR (fun _ => undef) 95 [94, 93, 92] [slv l1, .int .i64 n2, slv l3]).toArray) (by kernel_rfl : Tryz.f92.results.toList = [.tmp 6]) f92.okc ((f92.den l1 n2 l3 k w).symm ▸ h)

/-! rollcall/rollcallref03.Digit -/
noncomputable def f93.body : Code := (Tryz.f93.body).getD .skip
def f93.b (n1 : Int) (k : Value → World → Prop) (w : World) : Prop :=
  brK (decide ((48 : Int) ≤ n1)) (k (.bool (decide (n1 ≤ 57))) w) (k (.bool false) w)
theorem f93.den (n1 : Int) (k : Value → World → Prop) (w : World) : pc Tryz.prog none .none f93.body (retQ Tryz.prog [.tmp 2] k) (fun _ => undef) 9 [8] [.int .u8 n1] [] w = f93.b n1 k w := by kernel_rfl
theorem f93.okc {k : Value → World → Prop} : okC Tryz.prog none .none f93.body (retQ Tryz.prog [.tmp 2] k) :=
  Eq.mpr (by kernel_rfl : okC Tryz.prog none .none f93.body (retQ Tryz.prog [.tmp 2] k) = (True)) (trivial)
theorem f93.call {n1 : Int} {k : Value → World → Prop} {w : World} (h : f93.b n1 k w) : CALL Tryz.prog 93 #[.int .u8 n1] k w :=
  calls_of_pc Tryz.mixed Tryz.func93 (by kernel_rfl : Tryz.f93.body = some f93.body) (Tryz.call93 _ _) (by kernel_rfl : #[.int .u8 n1] ++ Array.replicate (Tryz.f93.ntmps - (#[.int .u8 n1] : Array Value).size) undef = (FR (fun _ => undef) 9 [8] [.int .u8 n1]).toArray) (by kernel_rfl : Tryz.f93.results.toList = [.tmp 2]) f93.okc ((f93.den n1 k w).symm ▸ h)

/-! rollcall/rollcallref04.Complete -/
noncomputable def f94.body : Code := (Tryz.f94.body).getD .skip
def f94.Q1 (k : Value → World → Prop) : Exit → Act → World → Prop := (retQ Tryz.prog [.tmp 2] k)
def f94.J2 (s13 : ByteArray) (s14 : ByteArray) (s15 : ByteArray) (k : Value → World → Prop) (w : World) : Prop :=
  CALL Tryz.prog 119 #[.string s13] (fun v16 w => ∃ s17 : ByteArray, v16 = .string s17 ∧ RQ (((s17.size + (⟨#[33]⟩ : ByteArray).size : Nat) : Int) ≤ 9223372036854775807) (CALL Tryz.prog 119 #[.string s14] (fun v18 w => ∃ s19 : ByteArray, v18 = .string s19 ∧ RQ ((((s17 ++ (⟨#[33]⟩ : ByteArray)).size + s19.size : Nat) : Int) ≤ 9223372036854775807) (RQ (((((s17 ++ (⟨#[33]⟩ : ByteArray)) ++ s19).size + (⟨#[64]⟩ : ByteArray).size : Nat) : Int) ≤ 9223372036854775807) (CALL Tryz.prog 119 #[.string s15] (fun v20 w => ∃ s21 : ByteArray, v20 = .string s21 ∧ RQ ((((((s17 ++ (⟨#[33]⟩ : ByteArray)) ++ s19) ++ (⟨#[64]⟩ : ByteArray)).size + s21.size : Nat) : Int) ≤ 9223372036854775807) (k (.string ((((s17 ++ (⟨#[33]⟩ : ByteArray)) ++ s19) ++ (⟨#[64]⟩ : ByteArray)) ++ s21)) w)) w))) w)) w
def f94.J2p (k : Value → World → Prop) : Act → World → Prop := PJ 60 [54, 53, 52] fun us ds w => un us fun v us => asStr v fun s13 => un us fun v us => asStr v fun s14 => un us fun v us => asStr v fun s15 => nl us (dn ds (f94.J2 s13 s14 s15 k w))
def f94.J1 (s6 : ByteArray) (s7 : ByteArray) (s8 : ByteArray) (s9 : ByteArray) (n10 : Int) (k : Value → World → Prop) (w : World) : Prop :=
  brK (decide ((0 : Int) ≤ n10)) (CALL Tryz.prog 118 #[.string s6, .int .u8 64, .int .i64 n10] (fun v11 w => ∃ n12 : Int, v11 = .int .i64 n12 ∧ brK (decide (n12 < 0)) (RQ (0 ≤ (n10 : Int) ∧ (n10 : Int) ≤ ((s6.size : Nat) : Int)) (f94.J2 s7 (s6.extract ((n10 : Int).toNat) s6.size) s9 k w)) (RQ (0 ≤ (n12 : Int) ∧ (n12 : Int) ≤ ((s6.size : Nat) : Int)) (RQ (0 ≤ (n10 : Int) ∧ (n10 : Int) ≤ (((n12 : Int).toNat : Nat) : Int)) (RQ (0 ≤ (IntKind.wrap .i64 (n12 + 1) : Int) ∧ (IntKind.wrap .i64 (n12 + 1) : Int) ≤ ((s6.size : Nat) : Int)) (f94.J2 s7 (s6.extract ((n10 : Int).toNat) ((n12 : Int).toNat)) (s6.extract ((IntKind.wrap .i64 (n12 + 1) : Int).toNat) s6.size) k w))))) w) (f94.J2 s7 s8 s9 k w)
def f94.J1p (k : Value → World → Prop) : Act → World → Prop := PJ 60 [59, 54, 53, 52, 51] fun us ds w => un us fun v us => asStr v fun s6 => un us fun v us => asStr v fun s7 => un us fun v us => asStr v fun s8 => un us fun v us => asStr v fun s9 => un us fun v us => asI .i64 v fun n10 => nl us (dn ds (f94.J1 s6 s7 s8 s9 n10 k w))
theorem f94.J2_den (D : Nat → Value) (s13 : ByteArray) (s14 : ByteArray) (s15 : ByteArray) (k : Value → World → Prop) (w : World) : pc Tryz.prog none .none (codeAt f94.body [1, 1, 1, 1, 1, 1, 1, 1, 1]) (f94.Q1 k) D 60 [54, 53, 52] [.string s13, .string s14, .string s15] [] w = f94.J2 s13 s14 s15 k w := by kernel_rfl
theorem f94.J2_okc {k : Value → World → Prop} : okC Tryz.prog none .none (codeAt f94.body [1, 1, 1, 1, 1, 1, 1, 1, 1]) (f94.Q1 k) :=
  Eq.mpr (by kernel_rfl : okC Tryz.prog none .none (codeAt f94.body [1, 1, 1, 1, 1, 1, 1, 1, 1]) (f94.Q1 k) = (True)) (trivial)
theorem f94.J2_ok {k : Value → World → Prop} : OKJ Tryz.prog none (f94.J2p k) (codeAt f94.body [1, 1, 1, 1, 1, 1, 1, 1, 1]) (f94.Q1 k) := by
  intro a w h
  obtain ⟨D, us, ds, rfl, h0⟩ := PJ_out h
  obtain ⟨v, us, rfl, h1⟩ := un_out h0
  obtain ⟨s13, rfl, h2⟩ := asStr_out h1
  obtain ⟨v, us, rfl, h3⟩ := un_out h2
  obtain ⟨s14, rfl, h4⟩ := asStr_out h3
  obtain ⟨v, us, rfl, h5⟩ := un_out h4
  obtain ⟨s15, rfl, h6⟩ := asStr_out h5
  obtain ⟨rfl, h7⟩ := nl_out h6
  obtain ⟨rfl, h8⟩ := dn_out h7
  rw [← f94.J2_den D s13 s14 s15 k w] at h8
  exact pc_wp Tryz.mixed f94.J2_okc h8
theorem f94.J1_den (D : Nat → Value) (s6 : ByteArray) (s7 : ByteArray) (s8 : ByteArray) (s9 : ByteArray) (n10 : Int) (k : Value → World → Prop) (w : World) : pc Tryz.prog none (.seq (some (f94.J2p k)) .none .none) (codeAt f94.body [1, 1, 1, 1, 1, 1, 1, 1]) (f94.Q1 k) D 60 [59, 54, 53, 52, 51] [.string s6, .string s7, .string s8, .string s9, .int .i64 n10] [] w = f94.J1 s6 s7 s8 s9 n10 k w := by kernel_rfl
theorem f94.J1_okc {k : Value → World → Prop} : okC Tryz.prog none (.seq (some (f94.J2p k)) .none .none) (codeAt f94.body [1, 1, 1, 1, 1, 1, 1, 1]) (f94.Q1 k) :=
  Eq.mpr (by kernel_rfl : okC Tryz.prog none (.seq (some (f94.J2p k)) .none .none) (codeAt f94.body [1, 1, 1, 1, 1, 1, 1, 1]) (f94.Q1 k) = (((True) ∧ OKJ Tryz.prog none (f94.J2p k) (codeAt f94.body [1, 1, 1, 1, 1, 1, 1, 1, 1]) (f94.Q1 k)))) (⟨trivial, f94.J2_ok⟩)
theorem f94.J1_ok {k : Value → World → Prop} : OKJ Tryz.prog none (f94.J1p k) (codeAt f94.body [1, 1, 1, 1, 1, 1, 1, 1]) (f94.Q1 k) := by
  intro a w h
  obtain ⟨D, us, ds, rfl, h0⟩ := PJ_out h
  obtain ⟨v, us, rfl, h1⟩ := un_out h0
  obtain ⟨s6, rfl, h2⟩ := asStr_out h1
  obtain ⟨v, us, rfl, h3⟩ := un_out h2
  obtain ⟨s7, rfl, h4⟩ := asStr_out h3
  obtain ⟨v, us, rfl, h5⟩ := un_out h4
  obtain ⟨s8, rfl, h6⟩ := asStr_out h5
  obtain ⟨v, us, rfl, h7⟩ := un_out h6
  obtain ⟨s9, rfl, h8⟩ := asStr_out h7
  obtain ⟨v, us, rfl, h9⟩ := un_out h8
  obtain ⟨n10, rfl, h10⟩ := asI_out h9
  obtain ⟨rfl, h11⟩ := nl_out h10
  obtain ⟨rfl, h12⟩ := dn_out h11
  rw [← f94.J1_den D s6 s7 s8 s9 n10 k w] at h12
  exact pc_wp Tryz.mixed f94.J1_okc h12
def f94.b (s1 : ByteArray) (k : Value → World → Prop) (w : World) : Prop :=
  CALL Tryz.prog 118 #[.string s1, .int .u8 33, .int .i64 0] (fun v2 w => ∃ n3 : Int, v2 = .int .i64 n3 ∧ CALL Tryz.prog 118 #[.string s1, .int .u8 64, .int .i64 0] (fun v4 w => ∃ n5 : Int, v4 = .int .i64 n5 ∧ brK (decide ((0 : Int) ≤ n3)) (brK (decide (n5 < 0)) (RQ (0 ≤ (n3 : Int) ∧ (n3 : Int) ≤ ((s1.size : Nat) : Int)) (f94.J1 s1 (s1.extract 0 ((n3 : Int).toNat)) (⟨#[]⟩ : ByteArray) (⟨#[]⟩ : ByteArray) (IntKind.wrap .i64 (n3 + 1)) k w)) (brK (decide (n3 < n5)) (RQ (0 ≤ (n3 : Int) ∧ (n3 : Int) ≤ ((s1.size : Nat) : Int)) (f94.J1 s1 (s1.extract 0 ((n3 : Int).toNat)) (⟨#[]⟩ : ByteArray) (⟨#[]⟩ : ByteArray) (IntKind.wrap .i64 (n3 + 1)) k w)) (brK (decide ((0 : Int) ≤ n5)) (f94.J1 s1 (⟨#[]⟩ : ByteArray) (⟨#[]⟩ : ByteArray) (⟨#[]⟩ : ByteArray) 0 k w) (f94.J1 s1 s1 (⟨#[]⟩ : ByteArray) (⟨#[]⟩ : ByteArray) (-1) k w)))) (brK (decide ((0 : Int) ≤ n5)) (f94.J1 s1 (⟨#[]⟩ : ByteArray) (⟨#[]⟩ : ByteArray) (⟨#[]⟩ : ByteArray) 0 k w) (f94.J1 s1 s1 (⟨#[]⟩ : ByteArray) (⟨#[]⟩ : ByteArray) (-1) k w))) w) w
theorem f94.den (s1 : ByteArray) (k : Value → World → Prop) (w : World) : pc Tryz.prog none (.seq none .none (.seq none .none (.seq none .none (.seq none .none (.seq none .none (.seq none .none (.seq none .none (.seq (some (f94.J1p k)) .none .none)))))))) f94.body (retQ Tryz.prog [.tmp 2] k) (fun _ => undef) 60 [59] [.string s1] [] w = f94.b s1 k w := by kernel_rfl
theorem f94.okc {k : Value → World → Prop} : okC Tryz.prog none (.seq none .none (.seq none .none (.seq none .none (.seq none .none (.seq none .none (.seq none .none (.seq none .none (.seq (some (f94.J1p k)) .none .none)))))))) f94.body (retQ Tryz.prog [.tmp 2] k) :=
  Eq.mpr (by kernel_rfl : okC Tryz.prog none (.seq none .none (.seq none .none (.seq none .none (.seq none .none (.seq none .none (.seq none .none (.seq none .none (.seq (some (f94.J1p k)) .none .none)))))))) f94.body (retQ Tryz.prog [.tmp 2] k) = (((True) ∧ (((True) ∧ (((True) ∧ (((True) ∧ (((True) ∧ (((True) ∧ (((True) ∧ (((True) ∧ OKJ Tryz.prog none (f94.J1p k) (codeAt f94.body [1, 1, 1, 1, 1, 1, 1, 1]) (f94.Q1 k)))))))))))))))))) (⟨trivial, ⟨trivial, ⟨trivial, ⟨trivial, ⟨trivial, ⟨trivial, ⟨trivial, ⟨trivial, f94.J1_ok⟩⟩⟩⟩⟩⟩⟩⟩)
theorem f94.call {s1 : ByteArray} {k : Value → World → Prop} {w : World} (h : f94.b s1 k w) : CALL Tryz.prog 94 #[.string s1] k w :=
  calls_of_pc Tryz.mixed Tryz.func94 (by kernel_rfl : Tryz.f94.body = some f94.body) (Tryz.call94 _ _) (by kernel_rfl : #[.string s1] ++ Array.replicate (Tryz.f94.ntmps - (#[.string s1] : Array Value).size) undef = (FR (fun _ => undef) 60 [59] [.string s1]).toArray) (by kernel_rfl : Tryz.f94.results.toList = [.tmp 2]) f94.okc ((f94.den s1 k w).symm ▸ h)

/-! rollcall/rollcallref03.Clean -/
noncomputable def f95.body : Code := (Tryz.f95.body).getD .skip
def f95.J1 (s34 : ByteArray) (k : Value → World → Prop) (w : World) : Prop :=
  k (.string s34) w
def f95.J1p (k : Value → World → Prop) : Act → World → Prop := PJ 43 [37] fun us ds w => un us fun v us => asStr v fun s34 => nl us (dn ds (f95.J1 s34 k w))
def f95.Q1 (k : Value → World → Prop) : Exit → Act → World → Prop := (Exit.inBlock 0 (Exit.then (f95.J1p k) (retQ Tryz.prog [.tmp 4] k)))
def f95.L2k (Kn1 : ByteArray → Int → ByteArray → Int → World → Prop) : Act → World → Prop := PJ 43 [42, 41, 37, 36] fun us ds w => un us fun v us => asStr v fun s3 => un us fun v us => asI .i64 v fun n4 => un us fun v us => asStr v fun s5 => un us fun v us => asI .i64 v fun n6 => nl us (dn ds (Kn1 s3 n4 s5 n6 w))
def f95.J3 (s30 : ByteArray) (n31 : Int) (s32 : ByteArray) (n33 : Int) (Kn1 : ByteArray → Int → ByteArray → Int → World → Prop) (k : Value → World → Prop) (w : World) : Prop :=
  Kn1 s30 n31 s32 (IntKind.wrap .i64 (n33 + 1)) w
def f95.J4 (s25 : ByteArray) (n26 : Int) (s27 : ByteArray) (n28 : Int) (b29 : Bool) (Kn1 : ByteArray → Int → ByteArray → Int → World → Prop) (k : Value → World → Prop) (w : World) : Prop :=
  brK b29 (RQ (0 ≤ (IntKind.wrap .i64 (n28 + 1) : Int) ∧ (IntKind.wrap .i64 (n28 + 1) : Int) ≤ ((s25.size : Nat) : Int)) (RQ (0 ≤ (n28 : Int) ∧ (n28 : Int) ≤ (((IntKind.wrap .i64 (n28 + 1) : Int).toNat : Nat) : Int)) (RQ (((s27.size + (s25.extract ((n28 : Int).toNat) ((IntKind.wrap .i64 (n28 + 1) : Int).toNat)).size : Nat) : Int) ≤ 9223372036854775807) (f95.J3 s25 n26 (s27 ++ (s25.extract ((n28 : Int).toNat) ((IntKind.wrap .i64 (n28 + 1) : Int).toNat))) n28 Kn1 k w)))) (f95.J3 s25 n26 s27 n28 Kn1 k w)
def f95.J4p (Kn1 : ByteArray → Int → ByteArray → Int → World → Prop) (k : Value → World → Prop) : Act → World → Prop := PJ 43 [42, 41, 37, 36, 8] fun us ds w => un us fun v us => asStr v fun s25 => un us fun v us => asI .i64 v fun n26 => un us fun v us => asStr v fun s27 => un us fun v us => asI .i64 v fun n28 => un us fun v us => asB v fun b29 => nl us (dn ds (f95.J4 s25 n26 s27 n28 b29 Kn1 k w))
def f95.J3p (Kn1 : ByteArray → Int → ByteArray → Int → World → Prop) (k : Value → World → Prop) : Act → World → Prop := PJ 43 [42, 41, 37, 36] fun us ds w => un us fun v us => asStr v fun s30 => un us fun v us => asI .i64 v fun n31 => un us fun v us => asStr v fun s32 => un us fun v us => asI .i64 v fun n33 => nl us (dn ds (f95.J3 s30 n31 s32 n33 Kn1 k w))
def f95.Q2 (Kn1 : ByteArray → Int → ByteArray → Int → World → Prop) (k : Value → World → Prop) : Exit → Act → World → Prop := (Exit.then (f95.J4p Kn1 k) (Exit.inBlock 1 (Exit.then (f95.J3p Kn1 k) (Exit.then (f95.L2k Kn1) (f95.Q1 k)))))
def f95.Q3 (Kn1 : ByteArray → Int → ByteArray → Int → World → Prop) (k : Value → World → Prop) : Exit → Act → World → Prop := (Exit.inBlock 1 (Exit.then (f95.J3p Kn1 k) (Exit.then (f95.L2k Kn1) (f95.Q1 k))))
def f95.Q4 (Kn1 : ByteArray → Int → ByteArray → Int → World → Prop) (k : Value → World → Prop) : Exit → Act → World → Prop := (Exit.then (f95.L2k Kn1) (f95.Q1 k))
def f95.O7 (s20 : ByteArray) (n21 : Int) (s22 : ByteArray) (n23 : Int) (b24 : Bool) (Kn1 : ByteArray → Int → ByteArray → Int → World → Prop) (k : Value → World → Prop) (w : World) : Prop :=
  brK b24 (f95.J4 s20 n21 s22 n23 (decide (((s22.size : Nat) : Int) < n21)) Kn1 k w) (f95.J4 s20 n21 s22 n23 false Kn1 k w)
def f95.O7p (Kn1 : ByteArray → Int → ByteArray → Int → World → Prop) (k : Value → World → Prop) : Act → World → Prop := PJ 43 [42, 41, 37, 36, 13] fun us ds w => un us fun v us => asStr v fun s20 => un us fun v us => asI .i64 v fun n21 => un us fun v us => asStr v fun s22 => un us fun v us => asI .i64 v fun n23 => un us fun v us => asB v fun b24 => nl us (dn ds (f95.O7 s20 n21 s22 n23 b24 Kn1 k w))
def f95.O6 (s14 : ByteArray) (n15 : Int) (s16 : ByteArray) (n17 : Int) (b18 : Bool) (Kn1 : ByteArray → Int → ByteArray → Int → World → Prop) (k : Value → World → Prop) (w : World) : Prop :=
  brK b18 (SIX s14 n17 (fun c19 => f95.O7 s14 n15 s16 n17 (c19 != 13) Kn1 k w)) (f95.O7 s14 n15 s16 n17 false Kn1 k w)
def f95.O6p (Kn1 : ByteArray → Int → ByteArray → Int → World → Prop) (k : Value → World → Prop) : Act → World → Prop := PJ 43 [42, 41, 37, 36, 19] fun us ds w => un us fun v us => asStr v fun s14 => un us fun v us => asI .i64 v fun n15 => un us fun v us => asStr v fun s16 => un us fun v us => asI .i64 v fun n17 => un us fun v us => asB v fun b18 => nl us (dn ds (f95.O6 s14 n15 s16 n17 b18 Kn1 k w))
def f95.O5 (s8 : ByteArray) (n9 : Int) (s10 : ByteArray) (n11 : Int) (b12 : Bool) (Kn1 : ByteArray → Int → ByteArray → Int → World → Prop) (k : Value → World → Prop) (w : World) : Prop :=
  brK b12 (SIX s8 n11 (fun c13 => f95.O6 s8 n9 s10 n11 (c13 != 10) Kn1 k w)) (f95.O6 s8 n9 s10 n11 false Kn1 k w)
def f95.O5p (Kn1 : ByteArray → Int → ByteArray → Int → World → Prop) (k : Value → World → Prop) : Act → World → Prop := PJ 43 [42, 41, 37, 36, 25] fun us ds w => un us fun v us => asStr v fun s8 => un us fun v us => asI .i64 v fun n9 => un us fun v us => asStr v fun s10 => un us fun v us => asI .i64 v fun n11 => un us fun v us => asB v fun b12 => nl us (dn ds (f95.O5 s8 n9 s10 n11 b12 Kn1 k w))
def f95.Q5 (k : Value → World → Prop) : Exit → Act → World → Prop := (retQ Tryz.prog [.tmp 4] k)
def f95.L2 (s3 : ByteArray) (n4 : Int) (s5 : ByteArray) (n6 : Int) (Kn1 : ByteArray → Int → ByteArray → Int → World → Prop) (k : Value → World → Prop) (w : World) : Prop :=
  brK (decide (n6 < ((s3.size : Nat) : Int))) (SIX s3 n6 (fun c7 => f95.O5 s3 n4 s5 n6 (c7 != 0) Kn1 k w)) (f95.J1 s5 k w)
def f95.L2lp (s3 : ByteArray) (n4 : Int) (s5 : ByteArray) (n6 : Int) (k : Value → World → Prop) (w : World) : Prop := ∀ D : Nat → Value, (Code.loop (codeAt f95.body [1, 1, 0, 1, 0, 0])).wpIn (Wd none) 0 Tryz.prog (f95.Q1 k) (fr D 43 [42, 41, 37, 36] [.string s3, .int .i64 n4, .string s5, .int .i64 n6] []) w
def f95.L2p (k : Value → World → Prop) : Act → World → Prop := PJ 43 [42, 41, 37, 36] fun us ds w => un us fun v us => asStr v fun s3 => un us fun v us => asI .i64 v fun n4 => un us fun v us => asStr v fun s5 => un us fun v us => asI .i64 v fun n6 => nl us (dn ds (f95.L2lp s3 n4 s5 n6 k w))
def f95.L2K (s3 : ByteArray) (n4 : Int) (I : ByteArray → Int → World → Prop) (μ : ByteArray → Int → World → Nat) (m : Nat) (s3' : ByteArray) (n4' : Int) (s5' : ByteArray) (n6' : Int) (w : World) : Prop := (s3' = s3 ∧ n4' = n4) ∧ I s5' n6' w ∧ μ s5' n6' w < m
theorem f95.J3_den (D : Nat → Value) (s30 : ByteArray) (n31 : Int) (s32 : ByteArray) (n33 : Int) (Kn1 : ByteArray → Int → ByteArray → Int → World → Prop) (k : Value → World → Prop) (w : World) : pc Tryz.prog none .none (codeAt f95.body [1, 1, 0, 1, 0, 0, 1, 1]) (f95.Q4 Kn1 k) D 43 [42, 41, 37, 36] [.string s30, .int .i64 n31, .string s32, .int .i64 n33] [] w = f95.J3 s30 n31 s32 n33 Kn1 k w := by kernel_rfl
theorem f95.J3_okc {Kn1 : ByteArray → Int → ByteArray → Int → World → Prop} {k : Value → World → Prop} : okC Tryz.prog none .none (codeAt f95.body [1, 1, 0, 1, 0, 0, 1, 1]) (f95.Q4 Kn1 k) :=
  Eq.mpr (by kernel_rfl : okC Tryz.prog none .none (codeAt f95.body [1, 1, 0, 1, 0, 0, 1, 1]) (f95.Q4 Kn1 k) = (True)) (trivial)
theorem f95.J3_ok {Kn1 : ByteArray → Int → ByteArray → Int → World → Prop} {k : Value → World → Prop} : OKJ Tryz.prog none (f95.J3p Kn1 k) (codeAt f95.body [1, 1, 0, 1, 0, 0, 1, 1]) (f95.Q4 Kn1 k) := by
  intro a w h
  obtain ⟨D, us, ds, rfl, h0⟩ := PJ_out h
  obtain ⟨v, us, rfl, h1⟩ := un_out h0
  obtain ⟨s30, rfl, h2⟩ := asStr_out h1
  obtain ⟨v, us, rfl, h3⟩ := un_out h2
  obtain ⟨n31, rfl, h4⟩ := asI_out h3
  obtain ⟨v, us, rfl, h5⟩ := un_out h4
  obtain ⟨s32, rfl, h6⟩ := asStr_out h5
  obtain ⟨v, us, rfl, h7⟩ := un_out h6
  obtain ⟨n33, rfl, h8⟩ := asI_out h7
  obtain ⟨rfl, h9⟩ := nl_out h8
  obtain ⟨rfl, h10⟩ := dn_out h9
  rw [← f95.J3_den D s30 n31 s32 n33 Kn1 k w] at h10
  exact pc_wp Tryz.mixed f95.J3_okc h10
theorem f95.J4_den (D : Nat → Value) (s25 : ByteArray) (n26 : Int) (s27 : ByteArray) (n28 : Int) (b29 : Bool) (Kn1 : ByteArray → Int → ByteArray → Int → World → Prop) (k : Value → World → Prop) (w : World) : pc Tryz.prog none .none (codeAt f95.body [1, 1, 0, 1, 0, 0, 1, 0, 0, 1]) (f95.Q3 Kn1 k) D 43 [42, 41, 37, 36, 8] [.string s25, .int .i64 n26, .string s27, .int .i64 n28, .bool b29] [] w = f95.J4 s25 n26 s27 n28 b29 Kn1 k w := by kernel_rfl
theorem f95.J4_okc {Kn1 : ByteArray → Int → ByteArray → Int → World → Prop} {k : Value → World → Prop} : okC Tryz.prog none .none (codeAt f95.body [1, 1, 0, 1, 0, 0, 1, 0, 0, 1]) (f95.Q3 Kn1 k) :=
  Eq.mpr (by kernel_rfl : okC Tryz.prog none .none (codeAt f95.body [1, 1, 0, 1, 0, 0, 1, 0, 0, 1]) (f95.Q3 Kn1 k) = (True)) (trivial)
theorem f95.J4_ok {Kn1 : ByteArray → Int → ByteArray → Int → World → Prop} {k : Value → World → Prop} : OKJ Tryz.prog none (f95.J4p Kn1 k) (codeAt f95.body [1, 1, 0, 1, 0, 0, 1, 0, 0, 1]) (f95.Q3 Kn1 k) := by
  intro a w h
  obtain ⟨D, us, ds, rfl, h0⟩ := PJ_out h
  obtain ⟨v, us, rfl, h1⟩ := un_out h0
  obtain ⟨s25, rfl, h2⟩ := asStr_out h1
  obtain ⟨v, us, rfl, h3⟩ := un_out h2
  obtain ⟨n26, rfl, h4⟩ := asI_out h3
  obtain ⟨v, us, rfl, h5⟩ := un_out h4
  obtain ⟨s27, rfl, h6⟩ := asStr_out h5
  obtain ⟨v, us, rfl, h7⟩ := un_out h6
  obtain ⟨n28, rfl, h8⟩ := asI_out h7
  obtain ⟨v, us, rfl, h9⟩ := un_out h8
  obtain ⟨b29, rfl, h10⟩ := asB_out h9
  obtain ⟨rfl, h11⟩ := nl_out h10
  obtain ⟨rfl, h12⟩ := dn_out h11
  rw [← f95.J4_den D s25 n26 s27 n28 b29 Kn1 k w] at h12
  exact pc_wp Tryz.mixed f95.J4_okc h12
theorem f95.O7_den (D : Nat → Value) (s20 : ByteArray) (n21 : Int) (s22 : ByteArray) (n23 : Int) (b24 : Bool) (Kn1 : ByteArray → Int → ByteArray → Int → World → Prop) (k : Value → World → Prop) (w : World) : (spK (FR D 43 [42, 41, 37, 36, 13] [.string s20, .int .i64 n21, .string s22, .int .i64 n23, .bool b24]) fun l => denOps Tryz.prog (opsAt (codeAt f95.body [1, 1, 0, 1, 0, 0, 1, 0, 0, 0])) ((f95.Q2 Kn1 k) .normal) (((opsAt (codeAt f95.body [1, 1, 0, 1, 0, 0, 1, 0, 0, 0])).toList.drop 17).take 5) { tmps := l.toArray, defers := [] } w) = f95.O7 s20 n21 s22 n23 b24 Kn1 k w := by kernel_rfl
theorem f95.O7_ok {Kn1 : ByteArray → Int → ByteArray → Int → World → Prop} {k : Value → World → Prop} : OKR Tryz.prog none (opsAt (codeAt f95.body [1, 1, 0, 1, 0, 0, 1, 0, 0, 0])) (f95.O7p Kn1 k) 17 (f95.Q2 Kn1 k) := by
  intro a w h
  obtain ⟨D, us, ds, rfl, h0⟩ := PJ_out h
  obtain ⟨v, us, rfl, h1⟩ := un_out h0
  obtain ⟨s20, rfl, h2⟩ := asStr_out h1
  obtain ⟨v, us, rfl, h3⟩ := un_out h2
  obtain ⟨n21, rfl, h4⟩ := asI_out h3
  obtain ⟨v, us, rfl, h5⟩ := un_out h4
  obtain ⟨s22, rfl, h6⟩ := asStr_out h5
  obtain ⟨v, us, rfl, h7⟩ := un_out h6
  obtain ⟨n23, rfl, h8⟩ := asI_out h7
  obtain ⟨v, us, rfl, h9⟩ := un_out h8
  obtain ⟨b24, rfl, h10⟩ := asB_out h9
  obtain ⟨rfl, h11⟩ := nl_out h10
  obtain ⟨rfl, h12⟩ := dn_out h11
  rw [← f95.O7_den D s20 n21 s22 n23 b24 Kn1 k w] at h12
  exact okr_of (m := 5) (okr_end (by kernel_rfl)) h12
theorem f95.O6_den (D : Nat → Value) (s14 : ByteArray) (n15 : Int) (s16 : ByteArray) (n17 : Int) (b18 : Bool) (Kn1 : ByteArray → Int → ByteArray → Int → World → Prop) (k : Value → World → Prop) (w : World) : (spK (FR D 43 [42, 41, 37, 36, 19] [.string s14, .int .i64 n15, .string s16, .int .i64 n17, .bool b18]) fun l => denOps Tryz.prog (opsAt (codeAt f95.body [1, 1, 0, 1, 0, 0, 1, 0, 0, 0])) (f95.O7p Kn1 k) (((opsAt (codeAt f95.body [1, 1, 0, 1, 0, 0, 1, 0, 0, 0])).toList.drop 11).take 6) { tmps := l.toArray, defers := [] } w) = f95.O6 s14 n15 s16 n17 b18 Kn1 k w := by kernel_rfl
theorem f95.O6_ok {Kn1 : ByteArray → Int → ByteArray → Int → World → Prop} {k : Value → World → Prop} : OKR Tryz.prog none (opsAt (codeAt f95.body [1, 1, 0, 1, 0, 0, 1, 0, 0, 0])) (f95.O6p Kn1 k) 11 (f95.Q2 Kn1 k) := by
  intro a w h
  obtain ⟨D, us, ds, rfl, h0⟩ := PJ_out h
  obtain ⟨v, us, rfl, h1⟩ := un_out h0
  obtain ⟨s14, rfl, h2⟩ := asStr_out h1
  obtain ⟨v, us, rfl, h3⟩ := un_out h2
  obtain ⟨n15, rfl, h4⟩ := asI_out h3
  obtain ⟨v, us, rfl, h5⟩ := un_out h4
  obtain ⟨s16, rfl, h6⟩ := asStr_out h5
  obtain ⟨v, us, rfl, h7⟩ := un_out h6
  obtain ⟨n17, rfl, h8⟩ := asI_out h7
  obtain ⟨v, us, rfl, h9⟩ := un_out h8
  obtain ⟨b18, rfl, h10⟩ := asB_out h9
  obtain ⟨rfl, h11⟩ := nl_out h10
  obtain ⟨rfl, h12⟩ := dn_out h11
  rw [← f95.O6_den D s14 n15 s16 n17 b18 Kn1 k w] at h12
  exact okr_of (m := 6) f95.O7_ok h12
theorem f95.O5_den (D : Nat → Value) (s8 : ByteArray) (n9 : Int) (s10 : ByteArray) (n11 : Int) (b12 : Bool) (Kn1 : ByteArray → Int → ByteArray → Int → World → Prop) (k : Value → World → Prop) (w : World) : (spK (FR D 43 [42, 41, 37, 36, 25] [.string s8, .int .i64 n9, .string s10, .int .i64 n11, .bool b12]) fun l => denOps Tryz.prog (opsAt (codeAt f95.body [1, 1, 0, 1, 0, 0, 1, 0, 0, 0])) (f95.O6p Kn1 k) (((opsAt (codeAt f95.body [1, 1, 0, 1, 0, 0, 1, 0, 0, 0])).toList.drop 5).take 6) { tmps := l.toArray, defers := [] } w) = f95.O5 s8 n9 s10 n11 b12 Kn1 k w := by kernel_rfl
theorem f95.O5_ok {Kn1 : ByteArray → Int → ByteArray → Int → World → Prop} {k : Value → World → Prop} : OKR Tryz.prog none (opsAt (codeAt f95.body [1, 1, 0, 1, 0, 0, 1, 0, 0, 0])) (f95.O5p Kn1 k) 5 (f95.Q2 Kn1 k) := by
  intro a w h
  obtain ⟨D, us, ds, rfl, h0⟩ := PJ_out h
  obtain ⟨v, us, rfl, h1⟩ := un_out h0
  obtain ⟨s8, rfl, h2⟩ := asStr_out h1
  obtain ⟨v, us, rfl, h3⟩ := un_out h2
  obtain ⟨n9, rfl, h4⟩ := asI_out h3
  obtain ⟨v, us, rfl, h5⟩ := un_out h4
  obtain ⟨s10, rfl, h6⟩ := asStr_out h5
  obtain ⟨v, us, rfl, h7⟩ := un_out h6
  obtain ⟨n11, rfl, h8⟩ := asI_out h7
  obtain ⟨v, us, rfl, h9⟩ := un_out h8
  obtain ⟨b12, rfl, h10⟩ := asB_out h9
  obtain ⟨rfl, h11⟩ := nl_out h10
  obtain ⟨rfl, h12⟩ := dn_out h11
  rw [← f95.O5_den D s8 n9 s10 n11 b12 Kn1 k w] at h12
  exact okr_of (m := 6) f95.O6_ok h12
theorem f95.J1_den (D : Nat → Value) (s34 : ByteArray) (k : Value → World → Prop) (w : World) : pc Tryz.prog none .none (codeAt f95.body [1, 1, 1]) (f95.Q5 k) D 43 [37] [.string s34] [] w = f95.J1 s34 k w := by kernel_rfl
theorem f95.J1_okc {k : Value → World → Prop} : okC Tryz.prog none .none (codeAt f95.body [1, 1, 1]) (f95.Q5 k) :=
  Eq.mpr (by kernel_rfl : okC Tryz.prog none .none (codeAt f95.body [1, 1, 1]) (f95.Q5 k) = (True)) (trivial)
theorem f95.J1_ok {k : Value → World → Prop} : OKJ Tryz.prog none (f95.J1p k) (codeAt f95.body [1, 1, 1]) (f95.Q5 k) := by
  intro a w h
  obtain ⟨D, us, ds, rfl, h0⟩ := PJ_out h
  obtain ⟨v, us, rfl, h1⟩ := un_out h0
  obtain ⟨s34, rfl, h2⟩ := asStr_out h1
  obtain ⟨rfl, h3⟩ := nl_out h2
  obtain ⟨rfl, h4⟩ := dn_out h3
  rw [← f95.J1_den D s34 k w] at h4
  exact pc_wp Tryz.mixed f95.J1_okc h4
theorem f95.L2_next {s3 : ByteArray} {n4 : Int} {I : ByteArray → Int → World → Prop} {μ : ByteArray → Int → World → Nat} {m : Nat} {s5 : ByteArray} {n6 : Int} {w : World} (hI : I s5 n6 w) (hlt : μ s5 n6 w < m) : f95.L2K s3 n4 I μ m s3 n4 s5 n6 w := ⟨⟨rfl, rfl⟩, hI, hlt⟩
theorem f95.L2_den (D : Nat → Value) (s3 : ByteArray) (n4 : Int) (s5 : ByteArray) (n6 : Int) (Kn1 : ByteArray → Int → ByteArray → Int → World → Prop) (k : Value → World → Prop) (w : World) : pc Tryz.prog none (.seq none .none (.seq (some (f95.J3p Kn1 k)) (.block (.seq (some (f95.J4p Kn1 k)) (.reg 5 (f95.O5p Kn1 k)) .none)) .none)) (codeAt f95.body [1, 1, 0, 1, 0, 0]) (Exit.then (f95.L2k Kn1) (f95.Q1 k)) D 43 [42, 41, 37, 36] [.string s3, .int .i64 n4, .string s5, .int .i64 n6] [] w = f95.L2 s3 n4 s5 n6 Kn1 k w := by kernel_rfl
theorem f95.L2_okc {Kn1 : ByteArray → Int → ByteArray → Int → World → Prop} {k : Value → World → Prop} : okC Tryz.prog none (.seq none .none (.seq (some (f95.J3p Kn1 k)) (.block (.seq (some (f95.J4p Kn1 k)) (.reg 5 (f95.O5p Kn1 k)) .none)) .none)) (codeAt f95.body [1, 1, 0, 1, 0, 0]) (Exit.then (f95.L2k Kn1) (f95.Q1 k)) :=
  Eq.mpr (by kernel_rfl : okC Tryz.prog none (.seq none .none (.seq (some (f95.J3p Kn1 k)) (.block (.seq (some (f95.J4p Kn1 k)) (.reg 5 (f95.O5p Kn1 k)) .none)) .none)) (codeAt f95.body [1, 1, 0, 1, 0, 0]) (Exit.then (f95.L2k Kn1) (f95.Q1 k)) = (((True) ∧ (((((OKR Tryz.prog none (opsAt (codeAt f95.body [1, 1, 0, 1, 0, 0, 1, 0, 0, 0])) (f95.O5p Kn1 k) 5 (f95.Q2 Kn1 k)) ∧ OKJ Tryz.prog none (f95.J4p Kn1 k) (codeAt f95.body [1, 1, 0, 1, 0, 0, 1, 0, 0, 1]) (f95.Q3 Kn1 k))) ∧ OKJ Tryz.prog none (f95.J3p Kn1 k) (codeAt f95.body [1, 1, 0, 1, 0, 0, 1, 1]) (f95.Q4 Kn1 k)))))) (⟨trivial, ⟨⟨f95.O5_ok, f95.J4_ok⟩, f95.J3_ok⟩⟩)
theorem f95.L2_ok {k : Value → World → Prop} : OKJ Tryz.prog none (f95.L2p k) (codeAt f95.body [1, 1, 0, 1, 0]) (f95.Q1 k) := by
  intro a w h
  obtain ⟨D, us, ds, rfl, h0⟩ := PJ_out h
  obtain ⟨v, us, rfl, h1⟩ := un_out h0
  obtain ⟨s3, rfl, h2⟩ := asStr_out h1
  obtain ⟨v, us, rfl, h3⟩ := un_out h2
  obtain ⟨n4, rfl, h4⟩ := asI_out h3
  obtain ⟨v, us, rfl, h5⟩ := un_out h4
  obtain ⟨s5, rfl, h6⟩ := asStr_out h5
  obtain ⟨v, us, rfl, h7⟩ := un_out h6
  obtain ⟨n6, rfl, h8⟩ := asI_out h7
  obtain ⟨rfl, h9⟩ := nl_out h8
  obtain ⟨rfl, h10⟩ := dn_out h9
  rw [show (codeAt f95.body [1, 1, 0, 1, 0]) = Code.loop (codeAt f95.body [1, 1, 0, 1, 0, 0]) by kernel_rfl]
  exact h10 D
theorem f95.L2_rule {s3 : ByteArray} {n4 : Int} {k : Value → World → Prop} (I : ByteArray → Int → World → Prop) (μ : ByteArray → Int → World → Nat) {s5 : ByteArray} {n6 : Int} {w : World} (h0 : I s5 n6 w)
    (hr : ∀ (s5 : ByteArray) (n6 : Int) (w : World), I s5 n6 w → f95.L2 s3 n4 s5 n6 (f95.L2K s3 n4 I μ (μ s5 n6 w)) k w) : f95.L2lp s3 n4 s5 n6 k w := by
  intro D0
  refine loop_ind (P := Tryz.prog) (fun m a w => ∃ s5 : ByteArray, ∃ n6 : Int, ∃ D : Nat → Value, a = fr D 43 [42, 41, 37, 36] [.string s3, .int .i64 n4, .string s5, .int .i64 n6] [] ∧ I s5 n6 w ∧ μ s5 n6 w = m) ?_ (μ s5 n6 w) ⟨_, _, D0, rfl, h0, rfl⟩
  rintro m a w ⟨s5, n6, D, rfl, hI, rfl⟩
  have h := hr s5 n6 w hI
  rw [← f95.L2_den D s3 n4 s5 n6 (f95.L2K s3 n4 I μ (μ s5 n6 w)) k w] at h
  refine then_mono (pc_wp Tryz.mixed f95.L2_okc h) ?_
  clear h
  intro a w h
  obtain ⟨D, us, ds, rfl, h0⟩ := PJ_out h
  obtain ⟨v, us, rfl, h1⟩ := un_out h0
  obtain ⟨s3', rfl, h2⟩ := asStr_out h1
  obtain ⟨v, us, rfl, h3⟩ := un_out h2
  obtain ⟨n4', rfl, h4⟩ := asI_out h3
  obtain ⟨v, us, rfl, h5⟩ := un_out h4
  obtain ⟨s5', rfl, h6⟩ := asStr_out h5
  obtain ⟨v, us, rfl, h7⟩ := un_out h6
  obtain ⟨n6', rfl, h8⟩ := asI_out h7
  obtain ⟨rfl, h9⟩ := nl_out h8
  obtain ⟨rfl, h10⟩ := dn_out h9
  obtain ⟨⟨rfl, rfl⟩, hI, hlt⟩ := h10
  exact ⟨_, hlt, _, _, D, rfl, hI, rfl⟩
def f95.b (s1 : ByteArray) (n2 : Int) (k : Value → World → Prop) (w : World) : Prop :=
  f95.L2lp s1 n2 (⟨#[]⟩ : ByteArray) 0 k w
theorem f95.den (s1 : ByteArray) (n2 : Int) (k : Value → World → Prop) (w : World) : pc Tryz.prog none (.seq none .none (.seq none .none (.seq (some (f95.J1p k)) (.seq none .none (.block (.at (f95.L2p k)))) .none))) f95.body (retQ Tryz.prog [.tmp 4] k) (fun _ => undef) 43 [42, 41] [.string s1, .int .i64 n2] [] w = f95.b s1 n2 k w := by kernel_rfl
theorem f95.okc {k : Value → World → Prop} : okC Tryz.prog none (.seq none .none (.seq none .none (.seq (some (f95.J1p k)) (.seq none .none (.block (.at (f95.L2p k)))) .none))) f95.body (retQ Tryz.prog [.tmp 4] k) :=
  Eq.mpr (by kernel_rfl : okC Tryz.prog none (.seq none .none (.seq none .none (.seq (some (f95.J1p k)) (.seq none .none (.block (.at (f95.L2p k)))) .none))) f95.body (retQ Tryz.prog [.tmp 4] k) = (((True) ∧ (((True) ∧ (((((True) ∧ (OKJ Tryz.prog none (f95.L2p k) (codeAt f95.body [1, 1, 0, 1, 0]) (f95.Q1 k)))) ∧ OKJ Tryz.prog none (f95.J1p k) (codeAt f95.body [1, 1, 1]) (f95.Q5 k)))))))) (⟨trivial, ⟨trivial, ⟨⟨trivial, f95.L2_ok⟩, f95.J1_ok⟩⟩⟩)
theorem f95.call {s1 : ByteArray} {n2 : Int} {k : Value → World → Prop} {w : World} (h : f95.b s1 n2 k w) : CALL Tryz.prog 95 #[.string s1, .int .i64 n2] k w :=
  calls_of_pc Tryz.mixed Tryz.func95 (by kernel_rfl : Tryz.f95.body = some f95.body) (Tryz.call95 _ _) (by kernel_rfl : #[.string s1, .int .i64 n2] ++ Array.replicate (Tryz.f95.ntmps - (#[.string s1, .int .i64 n2] : Array Value).size) undef = (FR (fun _ => undef) 43 [42, 41] [.string s1, .int .i64 n2]).toArray) (by kernel_rfl : Tryz.f95.results.toList = [.tmp 4]) f95.okc ((f95.den s1 n2 k w).symm ▸ h)

/-! rollcall/rollcallref01.Same -/
noncomputable def f96.body : Code := (Tryz.f96.body).getD .skip
def f96.b (s1 : ByteArray) (s2 : ByteArray) (k : Value → World → Prop) (w : World) : Prop :=
  CALL Tryz.prog 120 #[.string s1] (fun v3 w => ∃ s4 : ByteArray, v3 = .string s4 ∧ CALL Tryz.prog 120 #[.string s2] (fun v5 w => ∃ s6 : ByteArray, v5 = .string s6 ∧ k (.bool (decide ((s4 : ByteArray) = s6))) w) w) w
theorem f96.den (s1 : ByteArray) (s2 : ByteArray) (k : Value → World → Prop) (w : World) : pc Tryz.prog none .none f96.body (retQ Tryz.prog [.tmp 4] k) (fun _ => undef) 10 [9, 8] [.string s1, .string s2] [] w = f96.b s1 s2 k w := by kernel_rfl
theorem f96.okc {k : Value → World → Prop} : okC Tryz.prog none .none f96.body (retQ Tryz.prog [.tmp 4] k) :=
  Eq.mpr (by kernel_rfl : okC Tryz.prog none .none f96.body (retQ Tryz.prog [.tmp 4] k) = (True)) (trivial)
theorem f96.call {s1 : ByteArray} {s2 : ByteArray} {k : Value → World → Prop} {w : World} (h : f96.b s1 s2 k w) : CALL Tryz.prog 96 #[.string s1, .string s2] k w :=
  calls_of_pc Tryz.mixed Tryz.func96 (by kernel_rfl : Tryz.f96.body = some f96.body) (Tryz.call96 _ _) (by kernel_rfl : #[.string s1, .string s2] ++ Array.replicate (Tryz.f96.ntmps - (#[.string s1, .string s2] : Array Value).size) undef = (FR (fun _ => undef) 10 [9, 8] [.string s1, .string s2]).toArray) (by kernel_rfl : Tryz.f96.results.toList = [.tmp 4]) f96.okc ((f96.den s1 s2 k w).symm ▸ h)

/-! slices.Values[[]string,string]$1 -/
noncomputable def f98.body : Code := (Tryz.f98.body).getD .skip
def f98.Q1 (k : Value → World → Prop) : Exit → Act → World → Prop := (Exit.inBlock 0 (retQ Tryz.prog [] k))
def f98.L1k (Kn1 : Value → Sl → Int → Int → World → Prop) : Act → World → Prop := PJ 16 [15, 10, 9, 8] fun us ds w => un us fun v4 us => un us fun v us => asS v fun l5 => un us fun v us => asI .i64 v fun n6 => un us fun v us => asI .i64 v fun n7 => nl us (dn ds (Kn1 v4 l5 n6 n7 w))
def f98.L1 (v4 : Value) (l5 : Sl) (n6 : Int) (n7 : Int) (Kn1 : Value → Sl → Int → Int → World → Prop) (k : Value → World → Prop) (w : World) : Prop :=
  brK (decide (n7 < n6)) (IX l5 n7 1 (fun a8 => LD Value.string a8 (fun s9 w => DYN Tryz.prog v4 #[.string s9] (fun v10 w => ∃ b11 : Bool, v10 = .bool b11 ∧ brK (!b11) (k (.tuple #[]) w) (Kn1 v4 l5 n6 (IntKind.wrap .i64 (n7 + 1)) w)) w) w)) (k (.tuple #[]) w)
def f98.L1lp (v4 : Value) (l5 : Sl) (n6 : Int) (n7 : Int) (k : Value → World → Prop) (w : World) : Prop := ∀ D : Nat → Value, (Code.loop (codeAt f98.body [1, 0, 0])).wpIn (Wd none) 0 Tryz.prog (f98.Q1 k) (fr D 16 [15, 10, 9, 8] [v4, slv l5, .int .i64 n6, .int .i64 n7] []) w
def f98.L1p (k : Value → World → Prop) : Act → World → Prop := PJ 16 [15, 10, 9, 8] fun us ds w => un us fun v4 us => un us fun v us => asS v fun l5 => un us fun v us => asI .i64 v fun n6 => un us fun v us => asI .i64 v fun n7 => nl us (dn ds (f98.L1lp v4 l5 n6 n7 k w))
def f98.L1K (v4 : Value) (l5 : Sl) (n6 : Int) (I : Int → World → Prop) (μ : Int → World → Nat) (m : Nat) (v4' : Value) (l5' : Sl) (n6' : Int) (n7' : Int) (w : World) : Prop := (v4' = v4 ∧ l5' = l5 ∧ n6' = n6) ∧ I n7' w ∧ μ n7' w < m
theorem f98.L1_next {v4 : Value} {l5 : Sl} {n6 : Int} {I : Int → World → Prop} {μ : Int → World → Nat} {m : Nat} {n7 : Int} {w : World} (hI : I n7 w) (hlt : μ n7 w < m) : f98.L1K v4 l5 n6 I μ m v4 l5 n6 n7 w := ⟨⟨rfl, rfl, rfl⟩, hI, hlt⟩
theorem f98.L1_den (D : Nat → Value) (v4 : Value) (l5 : Sl) (n6 : Int) (n7 : Int) (Kn1 : Value → Sl → Int → Int → World → Prop) (k : Value → World → Prop) (w : World) : pc Tryz.prog none .none (codeAt f98.body [1, 0, 0]) (Exit.then (f98.L1k Kn1) (f98.Q1 k)) D 16 [15, 10, 9, 8] [v4, slv l5, .int .i64 n6, .int .i64 n7] [] w = f98.L1 v4 l5 n6 n7 Kn1 k w := by kernel_rfl
theorem f98.L1_okc {Kn1 : Value → Sl → Int → Int → World → Prop} {k : Value → World → Prop} : okC Tryz.prog none .none (codeAt f98.body [1, 0, 0]) (Exit.then (f98.L1k Kn1) (f98.Q1 k)) :=
  Eq.mpr (by kernel_rfl : okC Tryz.prog none .none (codeAt f98.body [1, 0, 0]) (Exit.then (f98.L1k Kn1) (f98.Q1 k)) = (True)) (trivial)
theorem f98.L1_ok {k : Value → World → Prop} : OKJ Tryz.prog none (f98.L1p k) (codeAt f98.body [1, 0]) (f98.Q1 k) := by
  intro a w h
  obtain ⟨D, us, ds, rfl, h0⟩ := PJ_out h
  obtain ⟨v4, us, rfl, h1⟩ := un_out h0
  obtain ⟨v, us, rfl, h2⟩ := un_out h1
  obtain ⟨l5, rfl, h3⟩ := asS_out h2
  obtain ⟨v, us, rfl, h4⟩ := un_out h3
  obtain ⟨n6, rfl, h5⟩ := asI_out h4
  obtain ⟨v, us, rfl, h6⟩ := un_out h5
  obtain ⟨n7, rfl, h7⟩ := asI_out h6
  obtain ⟨rfl, h8⟩ := nl_out h7
  obtain ⟨rfl, h9⟩ := dn_out h8
  rw [show (codeAt f98.body [1, 0]) = Code.loop (codeAt f98.body [1, 0, 0]) by kernel_rfl]
  exact h9 D
theorem f98.L1_rule {v4 : Value} {l5 : Sl} {n6 : Int} {k : Value → World → Prop} (I : Int → World → Prop) (μ : Int → World → Nat) {n7 : Int} {w : World} (h0 : I n7 w)
    (hr : ∀ (n7 : Int) (w : World), I n7 w → f98.L1 v4 l5 n6 n7 (f98.L1K v4 l5 n6 I μ (μ n7 w)) k w) : f98.L1lp v4 l5 n6 n7 k w := by
  intro D0
  refine loop_ind (P := Tryz.prog) (fun m a w => ∃ n7 : Int, ∃ D : Nat → Value, a = fr D 16 [15, 10, 9, 8] [v4, slv l5, .int .i64 n6, .int .i64 n7] [] ∧ I n7 w ∧ μ n7 w = m) ?_ (μ n7 w) ⟨_, D0, rfl, h0, rfl⟩
  rintro m a w ⟨n7, D, rfl, hI, rfl⟩
  have h := hr n7 w hI
  rw [← f98.L1_den D v4 l5 n6 n7 (f98.L1K v4 l5 n6 I μ (μ n7 w)) k w] at h
  refine then_mono (pc_wp Tryz.mixed f98.L1_okc h) ?_
  clear h
  intro a w h
  obtain ⟨D, us, ds, rfl, h0⟩ := PJ_out h
  obtain ⟨v4', us, rfl, h1⟩ := un_out h0
  obtain ⟨v, us, rfl, h2⟩ := un_out h1
  obtain ⟨l5', rfl, h3⟩ := asS_out h2
  obtain ⟨v, us, rfl, h4⟩ := un_out h3
  obtain ⟨n6', rfl, h5⟩ := asI_out h4
  obtain ⟨v, us, rfl, h6⟩ := un_out h5
  obtain ⟨n7', rfl, h7⟩ := asI_out h6
  obtain ⟨rfl, h8⟩ := nl_out h7
  obtain ⟨rfl, h9⟩ := dn_out h8
  obtain ⟨⟨rfl, rfl, rfl⟩, hI, hlt⟩ := h9
  exact ⟨_, hlt, _, D, rfl, hI, rfl⟩
def f98.b (v1 : Value) (q2 : Nat) (k : Value → World → Prop) (w : World) : Prop :=
  LD slv ⟨q2, 0, none⟩ (fun l3 w => f98.L1lp v1 l3 ((l3.2.1 : Nat) : Int) 0 k w) w
theorem f98.den (v1 : Value) (q2 : Nat) (k : Value → World → Prop) (w : World) : pc Tryz.prog none (.seq none .none (.block (.at (f98.L1p k)))) f98.body (retQ Tryz.prog [] k) (fun _ => undef) 16 [15, 14] [v1, .pointer (some ⟨q2, 0, none⟩)] [] w = f98.b v1 q2 k w := by kernel_rfl
theorem f98.okc {k : Value → World → Prop} : okC Tryz.prog none (.seq none .none (.block (.at (f98.L1p k)))) f98.body (retQ Tryz.prog [] k) :=
  Eq.mpr (by kernel_rfl : okC Tryz.prog none (.seq none .none (.block (.at (f98.L1p k)))) f98.body (retQ Tryz.prog [] k) = (((True) ∧ (OKJ Tryz.prog none (f98.L1p k) (codeAt f98.body [1, 0]) (f98.Q1 k))))) (⟨trivial, f98.L1_ok⟩)
theorem f98.call {v1 : Value} {q2 : Nat} {k : Value → World → Prop} {w : World} (h : f98.b v1 q2 k w) : CALL Tryz.prog 98 #[v1, .pointer (some ⟨q2, 0, none⟩)] k w :=
  calls_of_pc Tryz.mixed Tryz.func98 (by kernel_rfl : Tryz.f98.body = some f98.body) (Tryz.call98 _ _) (by kernel_rfl : #[v1, .pointer (some ⟨q2, 0, none⟩)] ++ Array.replicate (Tryz.f98.ntmps - (#[v1, .pointer (some ⟨q2, 0, none⟩)] : Array Value).size) undef = (FR (fun _ => undef) 16 [15, 14] [v1, .pointer (some ⟨q2, 0, none⟩)]).toArray) (by kernel_rfl : Tryz.f98.results.toList = []) f98.okc ((f98.den v1 q2 k w).symm ▸ h)

/-! cmp.isNaN[int] -/
noncomputable def f99.body : Code := (Tryz.f99.body).getD .skip
def f99.b (n1 : Int) (k : Value → World → Prop) (w : World) : Prop :=
  k (.bool (n1 != n1)) w
theorem f99.den (n1 : Int) (k : Value → World → Prop) (w : World) : pc Tryz.prog none .none f99.body (retQ Tryz.prog [.tmp 2] k) (fun _ => undef) 6 [5] [.int .i64 n1] [] w = f99.b n1 k w := by kernel_rfl
theorem f99.okc {k : Value → World → Prop} : okC Tryz.prog none .none f99.body (retQ Tryz.prog [.tmp 2] k) :=
  Eq.mpr (by kernel_rfl : okC Tryz.prog none .none f99.body (retQ Tryz.prog [.tmp 2] k) = (True)) (trivial)
theorem f99.call {n1 : Int} {k : Value → World → Prop} {w : World} (h : f99.b n1 k w) : CALL Tryz.prog 99 #[.int .i64 n1] k w :=
  calls_of_pc Tryz.mixed Tryz.func99 (by kernel_rfl : Tryz.f99.body = some f99.body) (Tryz.call99 _ _) (by kernel_rfl : #[.int .i64 n1] ++ Array.replicate (Tryz.f99.ntmps - (#[.int .i64 n1] : Array Value).size) undef = (FR (fun _ => undef) 6 [5] [.int .i64 n1]).toArray) (by kernel_rfl : Tryz.f99.results.toList = [.tmp 2]) f99.okc ((f99.den n1 k w).symm ▸ h)

/-! rollcall/valid.all -/
noncomputable def f100.body : Code := (Tryz.f100.body).getD .skip
def f100.J1 (k : Value → World → Prop) (w : World) : Prop :=
  k (.bool true) w
def f100.J1p (k : Value → World → Prop) : Act → World → Prop := PJ 36 [] fun us ds w => nl us (dn ds (f100.J1 k w))
def f100.Q1 (k : Value → World → Prop) : Exit → Act → World → Prop := (Exit.inBlock 0 (Exit.then (f100.J1p k) (retQ Tryz.prog [.tmp 8] k)))
def f100.L2k (Kn1 : ByteArray → Int → Nat → Int → Int → World → Prop) : Act → World → Prop := PJ 36 [35, 32, 26, 12, 11] fun us ds w => un us fun v us => asStr v fun s8 => un us fun v us => asI .u16 v fun n9 => un us fun v us => asBox v fun q10 => un us fun v us => asI .i64 v fun n11 => un us fun v us => asI .i64 v fun n12 => nl us (dn ds (Kn1 s8 n9 q10 n11 n12 w))
def f100.Q2 (k : Value → World → Prop) : Exit → Act → World → Prop := (retQ Tryz.prog [.tmp 8] k)
def f100.L2 (s8 : ByteArray) (n9 : Int) (q10 : Nat) (n11 : Int) (n12 : Int) (Kn1 : ByteArray → Int → Nat → Int → Int → World → Prop) (k : Value → World → Prop) (w : World) : Prop :=
  brK (decide (n12 < n11)) (SIX s8 n12 (fun c13 => RQ (0 ≤ (c13 : Int) ∧ (c13 : Int) < ((256 : Nat) : Int)) (LD (Value.int .u16) (Addr.add ⟨q10, 0, none⟩ (Int.toNat c13 * 1)) (fun n14 w => brK ((intBit .and .u16 n14 n9) == 0) (k (.bool false) w) (Kn1 s8 n9 q10 n11 (IntKind.wrap .i64 (n12 + 1)) w)) w))) (f100.J1 k w)
def f100.L2lp (s8 : ByteArray) (n9 : Int) (q10 : Nat) (n11 : Int) (n12 : Int) (k : Value → World → Prop) (w : World) : Prop := ∀ D : Nat → Value, (Code.loop (codeAt f100.body [1, 1, 1, 0, 1, 0, 0])).wpIn (Wd none) 0 Tryz.prog (f100.Q1 k) (fr D 36 [35, 32, 26, 12, 11] [.string s8, .int .u16 n9, .pointer (some ⟨q10, 0, none⟩), .int .i64 n11, .int .i64 n12] []) w
def f100.L2p (k : Value → World → Prop) : Act → World → Prop := PJ 36 [35, 32, 26, 12, 11] fun us ds w => un us fun v us => asStr v fun s8 => un us fun v us => asI .u16 v fun n9 => un us fun v us => asBox v fun q10 => un us fun v us => asI .i64 v fun n11 => un us fun v us => asI .i64 v fun n12 => nl us (dn ds (f100.L2lp s8 n9 q10 n11 n12 k w))
def f100.L2K (s8 : ByteArray) (n9 : Int) (q10 : Nat) (n11 : Int) (I : Int → World → Prop) (μ : Int → World → Nat) (m : Nat) (s8' : ByteArray) (n9' : Int) (q10' : Nat) (n11' : Int) (n12' : Int) (w : World) : Prop := (s8' = s8 ∧ n9' = n9 ∧ q10' = q10 ∧ n11' = n11) ∧ I n12' w ∧ μ n12' w < m
theorem f100.J1_den (D : Nat → Value) (k : Value → World → Prop) (w : World) : pc Tryz.prog none .none (codeAt f100.body [1, 1, 1, 1]) (f100.Q2 k) D 36 [] [] [] w = f100.J1 k w := by kernel_rfl
theorem f100.J1_okc {k : Value → World → Prop} : okC Tryz.prog none .none (codeAt f100.body [1, 1, 1, 1]) (f100.Q2 k) :=
  Eq.mpr (by kernel_rfl : okC Tryz.prog none .none (codeAt f100.body [1, 1, 1, 1]) (f100.Q2 k) = (True)) (trivial)
theorem f100.J1_ok {k : Value → World → Prop} : OKJ Tryz.prog none (f100.J1p k) (codeAt f100.body [1, 1, 1, 1]) (f100.Q2 k) := by
  intro a w h
  obtain ⟨D, us, ds, rfl, h0⟩ := PJ_out h
  obtain ⟨rfl, h1⟩ := nl_out h0
  obtain ⟨rfl, h2⟩ := dn_out h1
  rw [← f100.J1_den D k w] at h2
  exact pc_wp Tryz.mixed f100.J1_okc h2
theorem f100.L2_next {s8 : ByteArray} {n9 : Int} {q10 : Nat} {n11 : Int} {I : Int → World → Prop} {μ : Int → World → Nat} {m : Nat} {n12 : Int} {w : World} (hI : I n12 w) (hlt : μ n12 w < m) : f100.L2K s8 n9 q10 n11 I μ m s8 n9 q10 n11 n12 w := ⟨⟨rfl, rfl, rfl, rfl⟩, hI, hlt⟩
theorem f100.L2_den (D : Nat → Value) (s8 : ByteArray) (n9 : Int) (q10 : Nat) (n11 : Int) (n12 : Int) (Kn1 : ByteArray → Int → Nat → Int → Int → World → Prop) (k : Value → World → Prop) (w : World) : pc Tryz.prog none .none (codeAt f100.body [1, 1, 1, 0, 1, 0, 0]) (Exit.then (f100.L2k Kn1) (f100.Q1 k)) D 36 [35, 32, 26, 12, 11] [.string s8, .int .u16 n9, .pointer (some ⟨q10, 0, none⟩), .int .i64 n11, .int .i64 n12] [] w = f100.L2 s8 n9 q10 n11 n12 Kn1 k w := by kernel_rfl
theorem f100.L2_okc {Kn1 : ByteArray → Int → Nat → Int → Int → World → Prop} {k : Value → World → Prop} : okC Tryz.prog none .none (codeAt f100.body [1, 1, 1, 0, 1, 0, 0]) (Exit.then (f100.L2k Kn1) (f100.Q1 k)) :=
  Eq.mpr (by kernel_rfl : okC Tryz.prog none .none (codeAt f100.body [1, 1, 1, 0, 1, 0, 0]) (Exit.then (f100.L2k Kn1) (f100.Q1 k)) = (True)) (trivial)
theorem f100.L2_ok {k : Value → World → Prop} : OKJ Tryz.prog none (f100.L2p k) (codeAt f100.body [1, 1, 1, 0, 1, 0]) (f100.Q1 k) := by
  intro a w h
  obtain ⟨D, us, ds, rfl, h0⟩ := PJ_out h
  obtain ⟨v, us, rfl, h1⟩ := un_out h0
  obtain ⟨s8, rfl, h2⟩ := asStr_out h1
  obtain ⟨v, us, rfl, h3⟩ := un_out h2
  obtain ⟨n9, rfl, h4⟩ := asI_out h3
  obtain ⟨v, us, rfl, h5⟩ := un_out h4
  obtain ⟨q10, rfl, h6⟩ := asBox_out h5
  obtain ⟨v, us, rfl, h7⟩ := un_out h6
  obtain ⟨n11, rfl, h8⟩ := asI_out h7
  obtain ⟨v, us, rfl, h9⟩ := un_out h8
  obtain ⟨n12, rfl, h10⟩ := asI_out h9
  obtain ⟨rfl, h11⟩ := nl_out h10
  obtain ⟨rfl, h12⟩ := dn_out h11
  rw [show (codeAt f100.body [1, 1, 1, 0, 1, 0]) = Code.loop (codeAt f100.body [1, 1, 1, 0, 1, 0, 0]) by kernel_rfl]
  exact h12 D
theorem f100.L2_rule {s8 : ByteArray} {n9 : Int} {q10 : Nat} {n11 : Int} {k : Value → World → Prop} (I : Int → World → Prop) (μ : Int → World → Nat) {n12 : Int} {w : World} (h0 : I n12 w)
    (hr : ∀ (n12 : Int) (w : World), I n12 w → f100.L2 s8 n9 q10 n11 n12 (f100.L2K s8 n9 q10 n11 I μ (μ n12 w)) k w) : f100.L2lp s8 n9 q10 n11 n12 k w := by
  intro D0
  refine loop_ind (P := Tryz.prog) (fun m a w => ∃ n12 : Int, ∃ D : Nat → Value, a = fr D 36 [35, 32, 26, 12, 11] [.string s8, .int .u16 n9, .pointer (some ⟨q10, 0, none⟩), .int .i64 n11, .int .i64 n12] [] ∧ I n12 w ∧ μ n12 w = m) ?_ (μ n12 w) ⟨_, D0, rfl, h0, rfl⟩
  rintro m a w ⟨n12, D, rfl, hI, rfl⟩
  have h := hr n12 w hI
  rw [← f100.L2_den D s8 n9 q10 n11 n12 (f100.L2K s8 n9 q10 n11 I μ (μ n12 w)) k w] at h
  refine then_mono (pc_wp Tryz.mixed f100.L2_okc h) ?_
  clear h
  intro a w h
  obtain ⟨D, us, ds, rfl, h0⟩ := PJ_out h
  obtain ⟨v, us, rfl, h1⟩ := un_out h0
  obtain ⟨s8', rfl, h2⟩ := asStr_out h1
  obtain ⟨v, us, rfl, h3⟩ := un_out h2
  obtain ⟨n9', rfl, h4⟩ := asI_out h3
  obtain ⟨v, us, rfl, h5⟩ := un_out h4
  obtain ⟨q10', rfl, h6⟩ := asBox_out h5
  obtain ⟨v, us, rfl, h7⟩ := un_out h6
  obtain ⟨n11', rfl, h8⟩ := asI_out h7
  obtain ⟨v, us, rfl, h9⟩ := un_out h8
  obtain ⟨n12', rfl, h10⟩ := asI_out h9
  obtain ⟨rfl, h11⟩ := nl_out h10
  obtain ⟨rfl, h12⟩ := dn_out h11
  obtain ⟨⟨rfl, rfl, rfl, rfl⟩, hI, hlt⟩ := h12
  exact ⟨_, hlt, _, D, rfl, hI, rfl⟩
def f100.b (s1 : ByteArray) (n2 : Int) (n3 : Int) (n4 : Int) (k : Value → World → Prop) (w : World) : Prop :=
  brK (decide (((s1.size : Nat) : Int) < n2)) (k (.bool false) w) (brK (decide (n3 < ((s1.size : Nat) : Int))) (k (.bool false) w) (CALL Tryz.prog 88 #[] (fun v5 w => ∃ c6 : Array Value, v5 = .agg c6 ∧ AL (.cells (Array.replicate 256 (.int .u16 0)) 117) (fun q7 w => RQ (Array.size c6 = 256) (stAll ⟨q7, 0, none⟩ (fun w => f100.L2lp s1 n4 q7 ((s1.size : Nat) : Int) 0 k w) (Array.toList c6) 0 w)) w) w))
theorem f100.den (s1 : ByteArray) (n2 : Int) (n3 : Int) (n4 : Int) (k : Value → World → Prop) (w : World) : pc Tryz.prog none (.seq none .none (.seq none .none (.seq none .none (.seq (some (f100.J1p k)) (.seq none .none (.block (.at (f100.L2p k)))) .none)))) f100.body (retQ Tryz.prog [.tmp 8] k) (fun _ => undef) 36 [35, 34, 33, 32] [.string s1, .int .i64 n2, .int .i64 n3, .int .u16 n4] [] w = f100.b s1 n2 n3 n4 k w := by kernel_rfl
theorem f100.okc {k : Value → World → Prop} : okC Tryz.prog none (.seq none .none (.seq none .none (.seq none .none (.seq (some (f100.J1p k)) (.seq none .none (.block (.at (f100.L2p k)))) .none)))) f100.body (retQ Tryz.prog [.tmp 8] k) :=
  Eq.mpr (by kernel_rfl : okC Tryz.prog none (.seq none .none (.seq none .none (.seq none .none (.seq (some (f100.J1p k)) (.seq none .none (.block (.at (f100.L2p k)))) .none)))) f100.body (retQ Tryz.prog [.tmp 8] k) = (((True) ∧ (((True) ∧ (((True) ∧ (((((True) ∧ (OKJ Tryz.prog none (f100.L2p k) (codeAt f100.body [1, 1, 1, 0, 1, 0]) (f100.Q1 k)))) ∧ OKJ Tryz.prog none (f100.J1p k) (codeAt f100.body [1, 1, 1, 1]) (f100.Q2 k)))))))))) (⟨trivial, ⟨trivial, ⟨trivial, ⟨⟨trivial, f100.L2_ok⟩, f100.J1_ok⟩⟩⟩⟩)
theorem f100.call {s1 : ByteArray} {n2 : Int} {n3 : Int} {n4 : Int} {k : Value → World → Prop} {w : World} (h : f100.b s1 n2 n3 n4 k w) : CALL Tryz.prog 100 #[.string s1, .int .i64 n2, .int .i64 n3, .int .u16 n4] k w :=
  calls_of_pc Tryz.mixed Tryz.func100 (by kernel_rfl : Tryz.f100.body = some f100.body) (Tryz.call100 _ _) (by kernel_rfl : #[.string s1, .int .i64 n2, .int .i64 n3, .int .u16 n4] ++ Array.replicate (Tryz.f100.ntmps - (#[.string s1, .int .i64 n2, .int .i64 n3, .int .u16 n4] : Array Value).size) undef = (FR (fun _ => undef) 36 [35, 34, 33, 32] [.string s1, .int .i64 n2, .int .i64 n3, .int .u16 n4]).toArray) (by kernel_rfl : Tryz.f100.results.toList = [.tmp 8]) f100.okc ((f100.den s1 n2 n3 n4 k w).symm ▸ h)

/-! rollcall/glob.given -/
noncomputable def f104.body : Code := (Tryz.f104.body).getD .skip
def f104.b (s1 : ByteArray) (k : Value → World → Prop) (w : World) : Prop :=
  brK (decide ((s1 : ByteArray) = (⟨#[]⟩ : ByteArray))) (k (.string (⟨#[42]⟩ : ByteArray)) w) (k (.string s1) w)
theorem f104.den (s1 : ByteArray) (k : Value → World → Prop) (w : World) : pc Tryz.prog none .none f104.body (retQ Tryz.prog [.tmp 2] k) (fun _ => undef) 6 [5] [.string s1] [] w = f104.b s1 k w := by kernel_rfl
theorem f104.okc {k : Value → World → Prop} : okC Tryz.prog none .none f104.body (retQ Tryz.prog [.tmp 2] k) :=
  Eq.mpr (by kernel_rfl : okC Tryz.prog none .none f104.body (retQ Tryz.prog [.tmp 2] k) = (True)) (trivial)
theorem f104.call {s1 : ByteArray} {k : Value → World → Prop} {w : World} (h : f104.b s1 k w) : CALL Tryz.prog 104 #[.string s1] k w :=
  calls_of_pc Tryz.mixed Tryz.func104 (by kernel_rfl : Tryz.f104.body = some f104.body) (Tryz.call104 _ _) (by kernel_rfl : #[.string s1] ++ Array.replicate (Tryz.f104.ntmps - (#[.string s1] : Array Value).size) undef = (FR (fun _ => undef) 6 [5] [.string s1]).toArray) (by kernel_rfl : Tryz.f104.results.toList = [.tmp 2]) f104.okc ((f104.den s1 k w).symm ▸ h)

/-! rollcall/fold.Compare -/
noncomputable def f106.body : Code := (Tryz.f106.body).getD .skip
def f106.J1 (s13 : ByteArray) (s14 : ByteArray) (k : Value → World → Prop) (w : World) : Prop :=
  brK (decide (((s13.size : Nat) : Int) < ((s14.size : Nat) : Int))) (k (.int .i64 (-1)) w) (brK (decide (((s14.size : Nat) : Int) < ((s13.size : Nat) : Int))) (k (.int .i64 1) w) (k (.int .i64 0) w))
def f106.J1p (k : Value → World → Prop) : Act → World → Prop := PJ 43 [42, 41] fun us ds w => un us fun v us => asStr v fun s13 => un us fun v us => asStr v fun s14 => nl us (dn ds (f106.J1 s13 s14 k w))
def f106.Q1 (k : Value → World → Prop) : Exit → Act → World → Prop := (Exit.inBlock 0 (Exit.then (f106.J1p k) (retQ Tryz.prog [.tmp 4] k)))
def f106.L2k (Kn1 : ByteArray → ByteArray → Int → Int → World → Prop) : Act → World → Prop := PJ 43 [42, 41, 30, 29] fun us ds w => un us fun v us => asStr v fun s3 => un us fun v us => asStr v fun s4 => un us fun v us => asI .i64 v fun n5 => un us fun v us => asI .i64 v fun n6 => nl us (dn ds (Kn1 s3 s4 n5 n6 w))
def f106.Q2 (k : Value → World → Prop) : Exit → Act → World → Prop := (retQ Tryz.prog [.tmp 4] k)
def f106.L2 (s3 : ByteArray) (s4 : ByteArray) (n5 : Int) (n6 : Int) (Kn1 : ByteArray → ByteArray → Int → Int → World → Prop) (k : Value → World → Prop) (w : World) : Prop :=
  brK (decide (n6 < n5)) (DR (fun w => SIX s3 n6 (fun c7 => SIX s4 n6 (fun c8 => CALL Tryz.prog 136 #[.int .u8 c7] (fun v9 w => ∃ n10 : Int, v9 = .int .u8 n10 ∧ CALL Tryz.prog 136 #[.int .u8 c8] (fun v11 w => ∃ n12 : Int, v11 = .int .u8 n12 ∧ brK (decide (n10 < n12)) (k (.int .i64 (-1)) w) (brK (decide (n12 < n10)) (k (.int .i64 1) w) (Kn1 s3 s4 n5 (IntKind.wrap .i64 (n6 + 1)) w))) w) w))) w) (f106.J1 s3 s4 k w)
def f106.L2lp (s3 : ByteArray) (s4 : ByteArray) (n5 : Int) (n6 : Int) (k : Value → World → Prop) (w : World) : Prop := ∀ D : Nat → Value, (Code.loop (codeAt f106.body [1, 0, 1, 0, 0])).wpIn (Wd none) 0 Tryz.prog (f106.Q1 k) (fr D 43 [42, 41, 30, 29] [.string s3, .string s4, .int .i64 n5, .int .i64 n6] []) w
def f106.L2p (k : Value → World → Prop) : Act → World → Prop := PJ 43 [42, 41, 30, 29] fun us ds w => un us fun v us => asStr v fun s3 => un us fun v us => asStr v fun s4 => un us fun v us => asI .i64 v fun n5 => un us fun v us => asI .i64 v fun n6 => nl us (dn ds (f106.L2lp s3 s4 n5 n6 k w))
def f106.L2K (s3 : ByteArray) (s4 : ByteArray) (n5 : Int) (I : Int → World → Prop) (μ : Int → World → Nat) (m : Nat) (s3' : ByteArray) (s4' : ByteArray) (n5' : Int) (n6' : Int) (w : World) : Prop := (s3' = s3 ∧ s4' = s4 ∧ n5' = n5) ∧ I n6' w ∧ μ n6' w < m
theorem f106.J1_den (D : Nat → Value) (s13 : ByteArray) (s14 : ByteArray) (k : Value → World → Prop) (w : World) : pc Tryz.prog none .none (codeAt f106.body [1, 1]) (f106.Q2 k) D 43 [42, 41] [.string s13, .string s14] [] w = f106.J1 s13 s14 k w := by kernel_rfl
theorem f106.J1_okc {k : Value → World → Prop} : okC Tryz.prog none .none (codeAt f106.body [1, 1]) (f106.Q2 k) :=
  Eq.mpr (by kernel_rfl : okC Tryz.prog none .none (codeAt f106.body [1, 1]) (f106.Q2 k) = (True)) (trivial)
theorem f106.J1_ok {k : Value → World → Prop} : OKJ Tryz.prog none (f106.J1p k) (codeAt f106.body [1, 1]) (f106.Q2 k) := by
  intro a w h
  obtain ⟨D, us, ds, rfl, h0⟩ := PJ_out h
  obtain ⟨v, us, rfl, h1⟩ := un_out h0
  obtain ⟨s13, rfl, h2⟩ := asStr_out h1
  obtain ⟨v, us, rfl, h3⟩ := un_out h2
  obtain ⟨s14, rfl, h4⟩ := asStr_out h3
  obtain ⟨rfl, h5⟩ := nl_out h4
  obtain ⟨rfl, h6⟩ := dn_out h5
  rw [← f106.J1_den D s13 s14 k w] at h6
  exact pc_wp Tryz.mixed f106.J1_okc h6
theorem f106.L2_next {s3 : ByteArray} {s4 : ByteArray} {n5 : Int} {I : Int → World → Prop} {μ : Int → World → Nat} {m : Nat} {n6 : Int} {w : World} (hI : I n6 w) (hlt : μ n6 w < m) : f106.L2K s3 s4 n5 I μ m s3 s4 n5 n6 w := ⟨⟨rfl, rfl, rfl⟩, hI, hlt⟩
theorem f106.L2_den (D : Nat → Value) (s3 : ByteArray) (s4 : ByteArray) (n5 : Int) (n6 : Int) (Kn1 : ByteArray → ByteArray → Int → Int → World → Prop) (k : Value → World → Prop) (w : World) : pc Tryz.prog none .none (codeAt f106.body [1, 0, 1, 0, 0]) (Exit.then (f106.L2k Kn1) (f106.Q1 k)) D 43 [42, 41, 30, 29] [.string s3, .string s4, .int .i64 n5, .int .i64 n6] [] w = f106.L2 s3 s4 n5 n6 Kn1 k w := by kernel_rfl
theorem f106.L2_okc {Kn1 : ByteArray → ByteArray → Int → Int → World → Prop} {k : Value → World → Prop} : okC Tryz.prog none .none (codeAt f106.body [1, 0, 1, 0, 0]) (Exit.then (f106.L2k Kn1) (f106.Q1 k)) :=
  Eq.mpr (by kernel_rfl : okC Tryz.prog none .none (codeAt f106.body [1, 0, 1, 0, 0]) (Exit.then (f106.L2k Kn1) (f106.Q1 k)) = (True)) (trivial)
theorem f106.L2_ok {k : Value → World → Prop} : OKJ Tryz.prog none (f106.L2p k) (codeAt f106.body [1, 0, 1, 0]) (f106.Q1 k) := by
  intro a w h
  obtain ⟨D, us, ds, rfl, h0⟩ := PJ_out h
  obtain ⟨v, us, rfl, h1⟩ := un_out h0
  obtain ⟨s3, rfl, h2⟩ := asStr_out h1
  obtain ⟨v, us, rfl, h3⟩ := un_out h2
  obtain ⟨s4, rfl, h4⟩ := asStr_out h3
  obtain ⟨v, us, rfl, h5⟩ := un_out h4
  obtain ⟨n5, rfl, h6⟩ := asI_out h5
  obtain ⟨v, us, rfl, h7⟩ := un_out h6
  obtain ⟨n6, rfl, h8⟩ := asI_out h7
  obtain ⟨rfl, h9⟩ := nl_out h8
  obtain ⟨rfl, h10⟩ := dn_out h9
  rw [show (codeAt f106.body [1, 0, 1, 0]) = Code.loop (codeAt f106.body [1, 0, 1, 0, 0]) by kernel_rfl]
  exact h10 D
theorem f106.L2_rule {s3 : ByteArray} {s4 : ByteArray} {n5 : Int} {k : Value → World → Prop} (I : Int → World → Prop) (μ : Int → World → Nat) {n6 : Int} {w : World} (h0 : I n6 w)
    (hr : ∀ (n6 : Int) (w : World), I n6 w → f106.L2 s3 s4 n5 n6 (f106.L2K s3 s4 n5 I μ (μ n6 w)) k w) : f106.L2lp s3 s4 n5 n6 k w := by
  intro D0
  refine loop_ind (P := Tryz.prog) (fun m a w => ∃ n6 : Int, ∃ D : Nat → Value, a = fr D 43 [42, 41, 30, 29] [.string s3, .string s4, .int .i64 n5, .int .i64 n6] [] ∧ I n6 w ∧ μ n6 w = m) ?_ (μ n6 w) ⟨_, D0, rfl, h0, rfl⟩
  rintro m a w ⟨n6, D, rfl, hI, rfl⟩
  have h := hr n6 w hI
  rw [← f106.L2_den D s3 s4 n5 n6 (f106.L2K s3 s4 n5 I μ (μ n6 w)) k w] at h
  refine then_mono (pc_wp Tryz.mixed f106.L2_okc h) ?_
  clear h
  intro a w h
  obtain ⟨D, us, ds, rfl, h0⟩ := PJ_out h
  obtain ⟨v, us, rfl, h1⟩ := un_out h0
  obtain ⟨s3', rfl, h2⟩ := asStr_out h1
  obtain ⟨v, us, rfl, h3⟩ := un_out h2
  obtain ⟨s4', rfl, h4⟩ := asStr_out h3
  obtain ⟨v, us, rfl, h5⟩ := un_out h4
  obtain ⟨n5', rfl, h6⟩ := asI_out h5
  obtain ⟨v, us, rfl, h7⟩ := un_out h6
  obtain ⟨n6', rfl, h8⟩ := asI_out h7
  obtain ⟨rfl, h9⟩ := nl_out h8
  obtain ⟨rfl, h10⟩ := dn_out h9
  obtain ⟨⟨rfl, rfl, rfl⟩, hI, hlt⟩ := h10
  exact ⟨_, hlt, _, D, rfl, hI, rfl⟩
def f106.b (s1 : ByteArray) (s2 : ByteArray) (k : Value → World → Prop) (w : World) : Prop :=
  f106.L2lp s1 s2 (if ((s2.size : Nat) : Int) < ((s1.size : Nat) : Int) then ((s2.size : Nat) : Int) else ((s1.size : Nat) : Int)) 0 k w
theorem f106.den (s1 : ByteArray) (s2 : ByteArray) (k : Value → World → Prop) (w : World) : pc Tryz.prog none (.seq none .none (.seq (some (f106.J1p k)) (.seq none .none (.block (.at (f106.L2p k)))) .none)) f106.body (retQ Tryz.prog [.tmp 4] k) (fun _ => undef) 43 [42, 41] [.string s1, .string s2] [] w = f106.b s1 s2 k w := by kernel_rfl
theorem f106.okc {k : Value → World → Prop} : okC Tryz.prog none (.seq none .none (.seq (some (f106.J1p k)) (.seq none .none (.block (.at (f106.L2p k)))) .none)) f106.body (retQ Tryz.prog [.tmp 4] k) :=
  Eq.mpr (by kernel_rfl : okC Tryz.prog none (.seq none .none (.seq (some (f106.J1p k)) (.seq none .none (.block (.at (f106.L2p k)))) .none)) f106.body (retQ Tryz.prog [.tmp 4] k) = (((True) ∧ (((((True) ∧ (OKJ Tryz.prog none (f106.L2p k) (codeAt f106.body [1, 0, 1, 0]) (f106.Q1 k)))) ∧ OKJ Tryz.prog none (f106.J1p k) (codeAt f106.body [1, 1]) (f106.Q2 k)))))) (⟨trivial, ⟨⟨trivial, f106.L2_ok⟩, f106.J1_ok⟩⟩)
theorem f106.call {s1 : ByteArray} {s2 : ByteArray} {k : Value → World → Prop} {w : World} (h : f106.b s1 s2 k w) : CALL Tryz.prog 106 #[.string s1, .string s2] k w :=
  calls_of_pc Tryz.mixed Tryz.func106 (by kernel_rfl : Tryz.f106.body = some f106.body) (Tryz.call106 _ _) (by kernel_rfl : #[.string s1, .string s2] ++ Array.replicate (Tryz.f106.ntmps - (#[.string s1, .string s2] : Array Value).size) undef = (FR (fun _ => undef) 43 [42, 41] [.string s1, .string s2]).toArray) (by kernel_rfl : Tryz.f106.results.toList = [.tmp 4]) f106.okc ((f106.den s1 s2 k w).symm ▸ h)

/-! slices.Values[[]rollcall/api.Member,rollcall/api.Member]$1 -/
noncomputable def f107.body : Code := (Tryz.f107.body).getD .skip
def f107.Q1 (k : Value → World → Prop) : Exit → Act → World → Prop := (Exit.inBlock 0 (retQ Tryz.prog [] k))
def f107.L1k (Kn1 : Value → Sl → Int → Int → World → Prop) : Act → World → Prop := PJ 16 [15, 10, 9, 8] fun us ds w => un us fun v4 us => un us fun v us => asS v fun l5 => un us fun v us => asI .i64 v fun n6 => un us fun v us => asI .i64 v fun n7 => nl us (dn ds (Kn1 v4 l5 n6 n7 w))
def f107.L1 (v4 : Value) (l5 : Sl) (n6 : Int) (n7 : Int) (Kn1 : Value → Sl → Int → Int → World → Prop) (k : Value → World → Prop) (w : World) : Prop :=
  brK (decide (n7 < n6)) (IX l5 n7 3 (fun a8 => LD (Value.int .i64) (Addr.add a8 0) (fun n9 w => LD Value.bool (Addr.add a8 1) (fun b10 w => LD Value.bool (Addr.add a8 2) (fun b11 w => AL (.cells #[.int .i64 0, .bool false, .bool false] 39) (fun q12 w => ST (Addr.add ⟨q12, 0, none⟩ 0) (.int .i64 n9) (fun w => ST (Addr.add ⟨q12, 0, none⟩ 1) (.bool b10) (fun w => ST (Addr.add ⟨q12, 0, none⟩ 2) (.bool b11) (fun w => LD (Value.int .i64) (Addr.add ⟨q12, 0, none⟩ 0) (fun n13 w => LD Value.bool (Addr.add ⟨q12, 0, none⟩ 1) (fun b14 w => LD Value.bool (Addr.add ⟨q12, 0, none⟩ 2) (fun b15 w => DYN Tryz.prog v4 #[.agg #[.int .i64 n13, .bool b14, .bool b15]] (fun v16 w => ∃ b17 : Bool, v16 = .bool b17 ∧ brK (!b17) (k (.tuple #[]) w) (Kn1 v4 l5 n6 (IntKind.wrap .i64 (n7 + 1)) w)) w) w) w) w) w) w) w) w) w) w) w)) (k (.tuple #[]) w)
def f107.L1lp (v4 : Value) (l5 : Sl) (n6 : Int) (n7 : Int) (k : Value → World → Prop) (w : World) : Prop := ∀ D : Nat → Value, (Code.loop (codeAt f107.body [1, 0, 0])).wpIn (Wd none) 0 Tryz.prog (f107.Q1 k) (fr D 16 [15, 10, 9, 8] [v4, slv l5, .int .i64 n6, .int .i64 n7] []) w
def f107.L1p (k : Value → World → Prop) : Act → World → Prop := PJ 16 [15, 10, 9, 8] fun us ds w => un us fun v4 us => un us fun v us => asS v fun l5 => un us fun v us => asI .i64 v fun n6 => un us fun v us => asI .i64 v fun n7 => nl us (dn ds (f107.L1lp v4 l5 n6 n7 k w))
def f107.L1K (v4 : Value) (l5 : Sl) (n6 : Int) (I : Int → World → Prop) (μ : Int → World → Nat) (m : Nat) (v4' : Value) (l5' : Sl) (n6' : Int) (n7' : Int) (w : World) : Prop := (v4' = v4 ∧ l5' = l5 ∧ n6' = n6) ∧ I n7' w ∧ μ n7' w < m
theorem f107.L1_next {v4 : Value} {l5 : Sl} {n6 : Int} {I : Int → World → Prop} {μ : Int → World → Nat} {m : Nat} {n7 : Int} {w : World} (hI : I n7 w) (hlt : μ n7 w < m) : f107.L1K v4 l5 n6 I μ m v4 l5 n6 n7 w := ⟨⟨rfl, rfl, rfl⟩, hI, hlt⟩
theorem f107.L1_den (D : Nat → Value) (v4 : Value) (l5 : Sl) (n6 : Int) (n7 : Int) (Kn1 : Value → Sl → Int → Int → World → Prop) (k : Value → World → Prop) (w : World) : pc Tryz.prog none .none (codeAt f107.body [1, 0, 0]) (Exit.then (f107.L1k Kn1) (f107.Q1 k)) D 16 [15, 10, 9, 8] [v4, slv l5, .int .i64 n6, .int .i64 n7] [] w = f107.L1 v4 l5 n6 n7 Kn1 k w := by kernel_rfl
theorem f107.L1_okc {Kn1 : Value → Sl → Int → Int → World → Prop} {k : Value → World → Prop} : okC Tryz.prog none .none (codeAt f107.body [1, 0, 0]) (Exit.then (f107.L1k Kn1) (f107.Q1 k)) :=
  Eq.mpr (by kernel_rfl : okC Tryz.prog none .none (codeAt f107.body [1, 0, 0]) (Exit.then (f107.L1k Kn1) (f107.Q1 k)) = (True)) (trivial)
theorem f107.L1_ok {k : Value → World → Prop} : OKJ Tryz.prog none (f107.L1p k) (codeAt f107.body [1, 0]) (f107.Q1 k) := by
  intro a w h
  obtain ⟨D, us, ds, rfl, h0⟩ := PJ_out h
  obtain ⟨v4, us, rfl, h1⟩ := un_out h0
  obtain ⟨v, us, rfl, h2⟩ := un_out h1
  obtain ⟨l5, rfl, h3⟩ := asS_out h2
  obtain ⟨v, us, rfl, h4⟩ := un_out h3
  obtain ⟨n6, rfl, h5⟩ := asI_out h4
  obtain ⟨v, us, rfl, h6⟩ := un_out h5
  obtain ⟨n7, rfl, h7⟩ := asI_out h6
  obtain ⟨rfl, h8⟩ := nl_out h7
  obtain ⟨rfl, h9⟩ := dn_out h8
  rw [show (codeAt f107.body [1, 0]) = Code.loop (codeAt f107.body [1, 0, 0]) by kernel_rfl]
  exact h9 D
theorem f107.L1_rule {v4 : Value} {l5 : Sl} {n6 : Int} {k : Value → World → Prop} (I : Int → World → Prop) (μ : Int → World → Nat) {n7 : Int} {w : World} (h0 : I n7 w)
    (hr : ∀ (n7 : Int) (w : World), I n7 w → f107.L1 v4 l5 n6 n7 (f107.L1K v4 l5 n6 I μ (μ n7 w)) k w) : f107.L1lp v4 l5 n6 n7 k w := by
  intro D0
  refine loop_ind (P := Tryz.prog) (fun m a w => ∃ n7 : Int, ∃ D : Nat → Value, a = fr D 16 [15, 10, 9, 8] [v4, slv l5, .int .i64 n6, .int .i64 n7] [] ∧ I n7 w ∧ μ n7 w = m) ?_ (μ n7 w) ⟨_, D0, rfl, h0, rfl⟩
  rintro m a w ⟨n7, D, rfl, hI, rfl⟩
  have h := hr n7 w hI
  rw [← f107.L1_den D v4 l5 n6 n7 (f107.L1K v4 l5 n6 I μ (μ n7 w)) k w] at h
  refine then_mono (pc_wp Tryz.mixed f107.L1_okc h) ?_
  clear h
  intro a w h
  obtain ⟨D, us, ds, rfl, h0⟩ := PJ_out h
  obtain ⟨v4', us, rfl, h1⟩ := un_out h0
  obtain ⟨v, us, rfl, h2⟩ := un_out h1
  obtain ⟨l5', rfl, h3⟩ := asS_out h2
  obtain ⟨v, us, rfl, h4⟩ := un_out h3
  obtain ⟨n6', rfl, h5⟩ := asI_out h4
  obtain ⟨v, us, rfl, h6⟩ := un_out h5
  obtain ⟨n7', rfl, h7⟩ := asI_out h6
  obtain ⟨rfl, h8⟩ := nl_out h7
  obtain ⟨rfl, h9⟩ := dn_out h8
  obtain ⟨⟨rfl, rfl, rfl⟩, hI, hlt⟩ := h9
  exact ⟨_, hlt, _, D, rfl, hI, rfl⟩
def f107.b (v1 : Value) (q2 : Nat) (k : Value → World → Prop) (w : World) : Prop :=
  LD slv ⟨q2, 0, none⟩ (fun l3 w => f107.L1lp v1 l3 ((l3.2.1 : Nat) : Int) 0 k w) w
theorem f107.den (v1 : Value) (q2 : Nat) (k : Value → World → Prop) (w : World) : pc Tryz.prog none (.seq none .none (.block (.at (f107.L1p k)))) f107.body (retQ Tryz.prog [] k) (fun _ => undef) 16 [15, 14] [v1, .pointer (some ⟨q2, 0, none⟩)] [] w = f107.b v1 q2 k w := by kernel_rfl
theorem f107.okc {k : Value → World → Prop} : okC Tryz.prog none (.seq none .none (.block (.at (f107.L1p k)))) f107.body (retQ Tryz.prog [] k) :=
  Eq.mpr (by kernel_rfl : okC Tryz.prog none (.seq none .none (.block (.at (f107.L1p k)))) f107.body (retQ Tryz.prog [] k) = (((True) ∧ (OKJ Tryz.prog none (f107.L1p k) (codeAt f107.body [1, 0]) (f107.Q1 k))))) (⟨trivial, f107.L1_ok⟩)
theorem f107.call {v1 : Value} {q2 : Nat} {k : Value → World → Prop} {w : World} (h : f107.b v1 q2 k w) : CALL Tryz.prog 107 #[v1, .pointer (some ⟨q2, 0, none⟩)] k w :=
  calls_of_pc Tryz.mixed Tryz.func107 (by kernel_rfl : Tryz.f107.body = some f107.body) (Tryz.call107 _ _) (by kernel_rfl : #[v1, .pointer (some ⟨q2, 0, none⟩)] ++ Array.replicate (Tryz.f107.ntmps - (#[v1, .pointer (some ⟨q2, 0, none⟩)] : Array Value).size) undef = (FR (fun _ => undef) 16 [15, 14] [v1, .pointer (some ⟨q2, 0, none⟩)]).toArray) (by kernel_rfl : Tryz.f107.results.toList = []) f107.okc ((f107.den v1 q2 k w).symm ▸ h)

/-! rollcall/glob.one -/
noncomputable def f109.body : Code := (Tryz.f109.body).getD .skip
def f109.b (n1 : Int) (n2 : Int) (k : Value → World → Prop) (w : World) : Prop :=
  brK (n1 == 63) (k (.bool true) w) (brK (n1 != 42) (CALL Tryz.prog 136 #[.int .u8 n1] (fun v3 w => ∃ n4 : Int, v3 = .int .u8 n4 ∧ CALL Tryz.prog 136 #[.int .u8 n2] (fun v5 w => ∃ n6 : Int, v5 = .int .u8 n6 ∧ k (.bool (n4 == n6)) w) w) w) (k (.bool false) w))
theorem f109.den (n1 : Int) (n2 : Int) (k : Value → World → Prop) (w : World) : pc Tryz.prog none .none f109.body (retQ Tryz.prog [.tmp 4] k) (fun _ => undef) 18 [17, 16] [.int .u8 n1, .int .u8 n2] [] w = f109.b n1 n2 k w := by kernel_rfl
theorem f109.okc {k : Value → World → Prop} : okC Tryz.prog none .none f109.body (retQ Tryz.prog [.tmp 4] k) :=
  Eq.mpr (by kernel_rfl : okC Tryz.prog none .none f109.body (retQ Tryz.prog [.tmp 4] k) = (True)) (trivial)
theorem f109.call {n1 : Int} {n2 : Int} {k : Value → World → Prop} {w : World} (h : f109.b n1 n2 k w) : CALL Tryz.prog 109 #[.int .u8 n1, .int .u8 n2] k w :=
  calls_of_pc Tryz.mixed Tryz.func109 (by kernel_rfl : Tryz.f109.body = some f109.body) (Tryz.call109 _ _) (by kernel_rfl : #[.int .u8 n1, .int .u8 n2] ++ Array.replicate (Tryz.f109.ntmps - (#[.int .u8 n1, .int .u8 n2] : Array Value).size) undef = (FR (fun _ => undef) 18 [17, 16] [.int .u8 n1, .int .u8 n2]).toArray) (by kernel_rfl : Tryz.f109.results.toList = [.tmp 4]) f109.okc ((f109.den n1 n2 k w).symm ▸ h)

/-! cmp.Less[int] -/
noncomputable def f111.body : Code := (Tryz.f111.body).getD .skip
def f111.b (n1 : Int) (n2 : Int) (k : Value → World → Prop) (w : World) : Prop :=
  CALL Tryz.prog 99 #[.int .i64 n1] (fun v3 w => ∃ b4 : Bool, v3 = .bool b4 ∧ brK b4 (CALL Tryz.prog 99 #[.int .i64 n2] (fun v5 w => ∃ b6 : Bool, v5 = .bool b6 ∧ brK (!b6) (k (.bool true) w) (k (.bool (decide (n1 < n2))) w)) w) (k (.bool (decide (n1 < n2))) w)) w
theorem f111.den (n1 : Int) (n2 : Int) (k : Value → World → Prop) (w : World) : pc Tryz.prog none .none f111.body (retQ Tryz.prog [.tmp 4] k) (fun _ => undef) 17 [16, 15] [.int .i64 n1, .int .i64 n2] [] w = f111.b n1 n2 k w := by kernel_rfl
theorem f111.okc {k : Value → World → Prop} : okC Tryz.prog none .none f111.body (retQ Tryz.prog [.tmp 4] k) :=
  Eq.mpr (by kernel_rfl : okC Tryz.prog none .none f111.body (retQ Tryz.prog [.tmp 4] k) = (True)) (trivial)
theorem f111.call {n1 : Int} {n2 : Int} {k : Value → World → Prop} {w : World} (h : f111.b n1 n2 k w) : CALL Tryz.prog 111 #[.int .i64 n1, .int .i64 n2] k w :=
  calls_of_pc Tryz.mixed Tryz.func111 (by kernel_rfl : Tryz.f111.body = some f111.body) (Tryz.call111 _ _) (by kernel_rfl : #[.int .i64 n1, .int .i64 n2] ++ Array.replicate (Tryz.f111.ntmps - (#[.int .i64 n1, .int .i64 n2] : Array Value).size) undef = (FR (fun _ => undef) 17 [16, 15] [.int .i64 n1, .int .i64 n2]).toArray) (by kernel_rfl : Tryz.f111.results.toList = [.tmp 4]) f111.okc ((f111.den n1 n2 k w).symm ▸ h)

/-! slices.isNaN[int] -/
noncomputable def f112.body : Code := (Tryz.f112.body).getD .skip
def f112.b (n1 : Int) (k : Value → World → Prop) (w : World) : Prop :=
  k (.bool (n1 != n1)) w
theorem f112.den (n1 : Int) (k : Value → World → Prop) (w : World) : pc Tryz.prog none .none f112.body (retQ Tryz.prog [.tmp 2] k) (fun _ => undef) 6 [5] [.int .i64 n1] [] w = f112.b n1 k w := by kernel_rfl
theorem f112.okc {k : Value → World → Prop} : okC Tryz.prog none .none f112.body (retQ Tryz.prog [.tmp 2] k) :=
  Eq.mpr (by kernel_rfl : okC Tryz.prog none .none f112.body (retQ Tryz.prog [.tmp 2] k) = (True)) (trivial)
theorem f112.call {n1 : Int} {k : Value → World → Prop} {w : World} (h : f112.b n1 k w) : CALL Tryz.prog 112 #[.int .i64 n1] k w :=
  calls_of_pc Tryz.mixed Tryz.func112 (by kernel_rfl : Tryz.f112.body = some f112.body) (Tryz.call112 _ _) (by kernel_rfl : #[.int .i64 n1] ++ Array.replicate (Tryz.f112.ntmps - (#[.int .i64 n1] : Array Value).size) undef = (FR (fun _ => undef) 6 [5] [.int .i64 n1]).toArray) (by kernel_rfl : Tryz.f112.results.toList = [.tmp 2]) f112.okc ((f112.den n1 k w).symm ▸ h)

/-! rollcall/valid.letter -/
noncomputable def f113.body : Code := (Tryz.f113.body).getD .skip
def f113.b (n1 : Int) (k : Value → World → Prop) (w : World) : Prop :=
  brK (decide ((97 : Int) ≤ n1)) (brK (decide (n1 ≤ 122)) (k (.bool true) w) (brK (decide ((65 : Int) ≤ n1)) (k (.bool (decide (n1 ≤ 90))) w) (k (.bool false) w))) (brK (decide ((65 : Int) ≤ n1)) (k (.bool (decide (n1 ≤ 90))) w) (k (.bool false) w))
theorem f113.den (n1 : Int) (k : Value → World → Prop) (w : World) : pc Tryz.prog none .none f113.body (retQ Tryz.prog [.tmp 2] k) (fun _ => undef) 17 [16] [.int .i64 n1] [] w = f113.b n1 k w := by kernel_rfl
theorem f113.okc {k : Value → World → Prop} : okC Tryz.prog none .none f113.body (retQ Tryz.prog [.tmp 2] k) :=
  Eq.mpr (by kernel_rfl : okC Tryz.prog none .none f113.body (retQ Tryz.prog [.tmp 2] k) = (True)) (trivial)
theorem f113.call {n1 : Int} {k : Value → World → Prop} {w : World} (h : f113.b n1 k w) : CALL Tryz.prog 113 #[.int .i64 n1] k w :=
  calls_of_pc Tryz.mixed Tryz.func113 (by kernel_rfl : Tryz.f113.body = some f113.body) (Tryz.call113 _ _) (by kernel_rfl : #[.int .i64 n1] ++ Array.replicate (Tryz.f113.ntmps - (#[.int .i64 n1] : Array Value).size) undef = (FR (fun _ => undef) 17 [16] [.int .i64 n1]).toArray) (by kernel_rfl : Tryz.f113.results.toList = [.tmp 2]) f113.okc ((f113.den n1 k w).symm ▸ h)

/-! rollcall/valid.has -/
noncomputable def f114.body : Code := (Tryz.f114.body).getD .skip
def f114.b (s1 : ByteArray) (n2 : Int) (k : Value → World → Prop) (w : World) : Prop :=
  CALL Tryz.prog 82 #[.string s1, .int .u8 (IntKind.wrap .u8 n2)] (fun v3 w => ∃ n4 : Int, v3 = .int .i64 n4 ∧ k (.bool (decide ((0 : Int) ≤ n4))) w) w
theorem f114.den (s1 : ByteArray) (n2 : Int) (k : Value → World → Prop) (w : World) : pc Tryz.prog none .none f114.body (retQ Tryz.prog [.tmp 4] k) (fun _ => undef) 10 [9, 8] [.string s1, .int .i64 n2] [] w = f114.b s1 n2 k w := by kernel_rfl
theorem f114.okc {k : Value → World → Prop} : okC Tryz.prog none .none f114.body (retQ Tryz.prog [.tmp 4] k) :=
  Eq.mpr (by kernel_rfl : okC Tryz.prog none .none f114.body (retQ Tryz.prog [.tmp 4] k) = (True)) (trivial)
theorem f114.call {s1 : ByteArray} {n2 : Int} {k : Value → World → Prop} {w : World} (h : f114.b s1 n2 k w) : CALL Tryz.prog 114 #[.string s1, .int .i64 n2] k w :=
  calls_of_pc Tryz.mixed Tryz.func114 (by kernel_rfl : Tryz.f114.body = some f114.body) (Tryz.call114 _ _) (by kernel_rfl : #[.string s1, .int .i64 n2] ++ Array.replicate (Tryz.f114.ntmps - (#[.string s1, .int .i64 n2] : Array Value).size) undef = (FR (fun _ => undef) 10 [9, 8] [.string s1, .int .i64 n2]).toArray) (by kernel_rfl : Tryz.f114.results.toList = [.tmp 4]) f114.okc ((f114.den s1 n2 k w).symm ▸ h)

/-! rollcall/rollcallref04.index -/
noncomputable def f118.body : Code := (Tryz.f118.body).getD .skip
def f118.J1 (k : Value → World → Prop) (w : World) : Prop :=
  k (.int .i64 (-1)) w
def f118.J1p (k : Value → World → Prop) : Act → World → Prop := PJ 21 [] fun us ds w => nl us (dn ds (f118.J1 k w))
def f118.Q1 (k : Value → World → Prop) : Exit → Act → World → Prop := (Exit.inBlock 0 (Exit.then (f118.J1p k) (retQ Tryz.prog [.tmp 6] k)))
def f118.L2k (Kn1 : ByteArray → Int → Int → World → Prop) : Act → World → Prop := PJ 21 [20, 19, 13] fun us ds w => un us fun v us => asStr v fun s4 => un us fun v us => asI .u8 v fun n5 => un us fun v us => asI .i64 v fun n6 => nl us (dn ds (Kn1 s4 n5 n6 w))
def f118.Q2 (k : Value → World → Prop) : Exit → Act → World → Prop := (retQ Tryz.prog [.tmp 6] k)
def f118.L2 (s4 : ByteArray) (n5 : Int) (n6 : Int) (Kn1 : ByteArray → Int → Int → World → Prop) (k : Value → World → Prop) (w : World) : Prop :=
  brK (decide (n6 < ((s4.size : Nat) : Int))) (SIX s4 n6 (fun c7 => brK (c7 == n5) (k (.int .i64 n6) w) (Kn1 s4 n5 (IntKind.wrap .i64 (n6 + 1)) w))) (f118.J1 k w)
def f118.L2lp (s4 : ByteArray) (n5 : Int) (n6 : Int) (k : Value → World → Prop) (w : World) : Prop := ∀ D : Nat → Value, (Code.loop (codeAt f118.body [1, 0, 1, 0, 0])).wpIn (Wd none) 0 Tryz.prog (f118.Q1 k) (fr D 21 [20, 19, 13] [.string s4, .int .u8 n5, .int .i64 n6] []) w
def f118.L2p (k : Value → World → Prop) : Act → World → Prop := PJ 21 [20, 19, 13] fun us ds w => un us fun v us => asStr v fun s4 => un us fun v us => asI .u8 v fun n5 => un us fun v us => asI .i64 v fun n6 => nl us (dn ds (f118.L2lp s4 n5 n6 k w))
def f118.L2K (s4 : ByteArray) (n5 : Int) (I : Int → World → Prop) (μ : Int → World → Nat) (m : Nat) (s4' : ByteArray) (n5' : Int) (n6' : Int) (w : World) : Prop := (s4' = s4 ∧ n5' = n5) ∧ I n6' w ∧ μ n6' w < m
theorem f118.J1_den (D : Nat → Value) (k : Value → World → Prop) (w : World) : pc Tryz.prog none .none (codeAt f118.body [1, 1]) (f118.Q2 k) D 21 [] [] [] w = f118.J1 k w := by kernel_rfl
theorem f118.J1_okc {k : Value → World → Prop} : okC Tryz.prog none .none (codeAt f118.body [1, 1]) (f118.Q2 k) :=
  Eq.mpr (by kernel_rfl : okC Tryz.prog none .none (codeAt f118.body [1, 1]) (f118.Q2 k) = (True)) (trivial)
theorem f118.J1_ok {k : Value → World → Prop} : OKJ Tryz.prog none (f118.J1p k) (codeAt f118.body [1, 1]) (f118.Q2 k) := by
  intro a w h
  obtain ⟨D, us, ds, rfl, h0⟩ := PJ_out h
  obtain ⟨rfl, h1⟩ := nl_out h0
  obtain ⟨rfl, h2⟩ := dn_out h1
  rw [← f118.J1_den D k w] at h2
  exact pc_wp Tryz.mixed f118.J1_okc h2
theorem f118.L2_next {s4 : ByteArray} {n5 : Int} {I : Int → World → Prop} {μ : Int → World → Nat} {m : Nat} {n6 : Int} {w : World} (hI : I n6 w) (hlt : μ n6 w < m) : f118.L2K s4 n5 I μ m s4 n5 n6 w := ⟨⟨rfl, rfl⟩, hI, hlt⟩
theorem f118.L2_den (D : Nat → Value) (s4 : ByteArray) (n5 : Int) (n6 : Int) (Kn1 : ByteArray → Int → Int → World → Prop) (k : Value → World → Prop) (w : World) : pc Tryz.prog none .none (codeAt f118.body [1, 0, 1, 0, 0]) (Exit.then (f118.L2k Kn1) (f118.Q1 k)) D 21 [20, 19, 13] [.string s4, .int .u8 n5, .int .i64 n6] [] w = f118.L2 s4 n5 n6 Kn1 k w := by kernel_rfl
theorem f118.L2_okc {Kn1 : ByteArray → Int → Int → World → Prop} {k : Value → World → Prop} : okC Tryz.prog none .none (codeAt f118.body [1, 0, 1, 0, 0]) (Exit.then (f118.L2k Kn1) (f118.Q1 k)) :=
  Eq.mpr (by kernel_rfl : okC Tryz.prog none .none (codeAt f118.body [1, 0, 1, 0, 0]) (Exit.then (f118.L2k Kn1) (f118.Q1 k)) = (True)) (trivial)
theorem f118.L2_ok {k : Value → World → Prop} : OKJ Tryz.prog none (f118.L2p k) (codeAt f118.body [1, 0, 1, 0]) (f118.Q1 k) := by
  intro a w h
  obtain ⟨D, us, ds, rfl, h0⟩ := PJ_out h
  obtain ⟨v, us, rfl, h1⟩ := un_out h0
  obtain ⟨s4, rfl, h2⟩ := asStr_out h1
  obtain ⟨v, us, rfl, h3⟩ := un_out h2
  obtain ⟨n5, rfl, h4⟩ := asI_out h3
  obtain ⟨v, us, rfl, h5⟩ := un_out h4
  obtain ⟨n6, rfl, h6⟩ := asI_out h5
  obtain ⟨rfl, h7⟩ := nl_out h6
  obtain ⟨rfl, h8⟩ := dn_out h7
  rw [show (codeAt f118.body [1, 0, 1, 0]) = Code.loop (codeAt f118.body [1, 0, 1, 0, 0]) by kernel_rfl]
  exact h8 D
theorem f118.L2_rule {s4 : ByteArray} {n5 : Int} {k : Value → World → Prop} (I : Int → World → Prop) (μ : Int → World → Nat) {n6 : Int} {w : World} (h0 : I n6 w)
    (hr : ∀ (n6 : Int) (w : World), I n6 w → f118.L2 s4 n5 n6 (f118.L2K s4 n5 I μ (μ n6 w)) k w) : f118.L2lp s4 n5 n6 k w := by
  intro D0
  refine loop_ind (P := Tryz.prog) (fun m a w => ∃ n6 : Int, ∃ D : Nat → Value, a = fr D 21 [20, 19, 13] [.string s4, .int .u8 n5, .int .i64 n6] [] ∧ I n6 w ∧ μ n6 w = m) ?_ (μ n6 w) ⟨_, D0, rfl, h0, rfl⟩
  rintro m a w ⟨n6, D, rfl, hI, rfl⟩
  have h := hr n6 w hI
  rw [← f118.L2_den D s4 n5 n6 (f118.L2K s4 n5 I μ (μ n6 w)) k w] at h
  refine then_mono (pc_wp Tryz.mixed f118.L2_okc h) ?_
  clear h
  intro a w h
  obtain ⟨D, us, ds, rfl, h0⟩ := PJ_out h
  obtain ⟨v, us, rfl, h1⟩ := un_out h0
  obtain ⟨s4', rfl, h2⟩ := asStr_out h1
  obtain ⟨v, us, rfl, h3⟩ := un_out h2
  obtain ⟨n5', rfl, h4⟩ := asI_out h3
  obtain ⟨v, us, rfl, h5⟩ := un_out h4
  obtain ⟨n6', rfl, h6⟩ := asI_out h5
  obtain ⟨rfl, h7⟩ := nl_out h6
  obtain ⟨rfl, h8⟩ := dn_out h7
  obtain ⟨⟨rfl, rfl⟩, hI, hlt⟩ := h8
  exact ⟨_, hlt, _, D, rfl, hI, rfl⟩
def f118.b (s1 : ByteArray) (n2 : Int) (n3 : Int) (k : Value → World → Prop) (w : World) : Prop :=
  f118.L2lp s1 n2 n3 k w
theorem f118.den (s1 : ByteArray) (n2 : Int) (n3 : Int) (k : Value → World → Prop) (w : World) : pc Tryz.prog none (.seq none .none (.seq (some (f118.J1p k)) (.seq none .none (.block (.at (f118.L2p k)))) .none)) f118.body (retQ Tryz.prog [.tmp 6] k) (fun _ => undef) 21 [20, 19, 18] [.string s1, .int .u8 n2, .int .i64 n3] [] w = f118.b s1 n2 n3 k w := by kernel_rfl
theorem f118.okc {k : Value → World → Prop} : okC Tryz.prog none (.seq none .none (.seq (some (f118.J1p k)) (.seq none .none (.block (.at (f118.L2p k)))) .none)) f118.body (retQ Tryz.prog [.tmp 6] k) :=
  Eq.mpr (by kernel_rfl : okC Tryz.prog none (.seq none .none (.seq (some (f118.J1p k)) (.seq none .none (.block (.at (f118.L2p k)))) .none)) f118.body (retQ Tryz.prog [.tmp 6] k) = (((True) ∧ (((((True) ∧ (OKJ Tryz.prog none (f118.L2p k) (codeAt f118.body [1, 0, 1, 0]) (f118.Q1 k)))) ∧ OKJ Tryz.prog none (f118.J1p k) (codeAt f118.body [1, 1]) (f118.Q2 k)))))) (⟨trivial, ⟨⟨trivial, f118.L2_ok⟩, f118.J1_ok⟩⟩)
theorem f118.call {s1 : ByteArray} {n2 : Int} {n3 : Int} {k : Value → World → Prop} {w : World} (h : f118.b s1 n2 n3 k w) : CALL Tryz.prog 118 #[.string s1, .int .u8 n2, .int .i64 n3] k w :=
  calls_of_pc Tryz.mixed Tryz.func118 (by kernel_rfl : Tryz.f118.body = some f118.body) (Tryz.call118 _ _) (by kernel_rfl : #[.string s1, .int .u8 n2, .int .i64 n3] ++ Array.replicate (Tryz.f118.ntmps - (#[.string s1, .int .u8 n2, .int .i64 n3] : Array Value).size) undef = (FR (fun _ => undef) 21 [20, 19, 18] [.string s1, .int .u8 n2, .int .i64 n3]).toArray) (by kernel_rfl : Tryz.f118.results.toList = [.tmp 6]) f118.okc ((f118.den s1 n2 n3 k w).symm ▸ h)

/-! rollcall/rollcallref04.star -/
noncomputable def f119.body : Code := (Tryz.f119.body).getD .skip
def f119.b (s1 : ByteArray) (k : Value → World → Prop) (w : World) : Prop :=
  brK (decide ((s1 : ByteArray) = (⟨#[]⟩ : ByteArray))) (k (.string (⟨#[42]⟩ : ByteArray)) w) (k (.string s1) w)
theorem f119.den (s1 : ByteArray) (k : Value → World → Prop) (w : World) : pc Tryz.prog none .none f119.body (retQ Tryz.prog [.tmp 2] k) (fun _ => undef) 6 [5] [.string s1] [] w = f119.b s1 k w := by kernel_rfl
theorem f119.okc {k : Value → World → Prop} : okC Tryz.prog none .none f119.body (retQ Tryz.prog [.tmp 2] k) :=
  Eq.mpr (by kernel_rfl : okC Tryz.prog none .none f119.body (retQ Tryz.prog [.tmp 2] k) = (True)) (trivial)
theorem f119.call {s1 : ByteArray} {k : Value → World → Prop} {w : World} (h : f119.b s1 k w) : CALL Tryz.prog 119 #[.string s1] k w :=
  calls_of_pc Tryz.mixed Tryz.func119 (by kernel_rfl : Tryz.f119.body = some f119.body) (Tryz.call119 _ _) (by kernel_rfl : #[.string s1] ++ Array.replicate (Tryz.f119.ntmps - (#[.string s1] : Array Value).size) undef = (FR (fun _ => undef) 6 [5] [.string s1]).toArray) (by kernel_rfl : Tryz.f119.results.toList = [.tmp 2]) f119.okc ((f119.den s1 k w).symm ▸ h)

/-! rollcall/rollcallref01.Text -/
noncomputable def f120.body : Code := (Tryz.f120.body).getD .skip
def f120.J1 (s10 : ByteArray) (k : Value → World → Prop) (w : World) : Prop :=
  k (.string s10) w
def f120.J1p (k : Value → World → Prop) : Act → World → Prop := PJ 20 [16] fun us ds w => un us fun v us => asStr v fun s10 => nl us (dn ds (f120.J1 s10 k w))
def f120.Q1 (k : Value → World → Prop) : Exit → Act → World → Prop := (Exit.inBlock 0 (Exit.then (f120.J1p k) (retQ Tryz.prog [.tmp 2] k)))
def f120.L2k (Kn1 : ByteArray → ByteArray → Int → World → Prop) : Act → World → Prop := PJ 20 [19, 16, 15] fun us ds w => un us fun v us => asStr v fun s2 => un us fun v us => asStr v fun s3 => un us fun v us => asI .i64 v fun n4 => nl us (dn ds (Kn1 s2 s3 n4 w))
def f120.Q2 (k : Value → World → Prop) : Exit → Act → World → Prop := (retQ Tryz.prog [.tmp 2] k)
def f120.L2 (s2 : ByteArray) (s3 : ByteArray) (n4 : Int) (Kn1 : ByteArray → ByteArray → Int → World → Prop) (k : Value → World → Prop) (w : World) : Prop :=
  brK (decide (n4 < ((s2.size : Nat) : Int))) (SIX s2 n4 (fun c5 => CALL Tryz.prog 51 #[.int .u8 c5] (fun v6 w => ∃ n7 : Int, v6 = .int .u8 n7 ∧ AL (.cells #[.int .u8 n7] 5) (fun q8 w => B2S ((some ⟨q8, 0, none⟩), 1, 1) (fun s9 w => RQ (((s3.size + s9.size : Nat) : Int) ≤ 9223372036854775807) (Kn1 s2 (s3 ++ s9) (IntKind.wrap .i64 (n4 + 1)) w)) w) w) w)) (f120.J1 s3 k w)
def f120.L2lp (s2 : ByteArray) (s3 : ByteArray) (n4 : Int) (k : Value → World → Prop) (w : World) : Prop := ∀ D : Nat → Value, (Code.loop (codeAt f120.body [1, 1, 0, 1, 0, 0])).wpIn (Wd none) 0 Tryz.prog (f120.Q1 k) (fr D 20 [19, 16, 15] [.string s2, .string s3, .int .i64 n4] []) w
def f120.L2p (k : Value → World → Prop) : Act → World → Prop := PJ 20 [19, 16, 15] fun us ds w => un us fun v us => asStr v fun s2 => un us fun v us => asStr v fun s3 => un us fun v us => asI .i64 v fun n4 => nl us (dn ds (f120.L2lp s2 s3 n4 k w))
def f120.L2K (s2 : ByteArray) (I : ByteArray → Int → World → Prop) (μ : ByteArray → Int → World → Nat) (m : Nat) (s2' : ByteArray) (s3' : ByteArray) (n4' : Int) (w : World) : Prop := (s2' = s2) ∧ I s3' n4' w ∧ μ s3' n4' w < m
theorem f120.J1_den (D : Nat → Value) (s10 : ByteArray) (k : Value → World → Prop) (w : World) : pc Tryz.prog none .none (codeAt f120.body [1, 1, 1]) (f120.Q2 k) D 20 [16] [.string s10] [] w = f120.J1 s10 k w := by kernel_rfl
theorem f120.J1_okc {k : Value → World → Prop} : okC Tryz.prog none .none (codeAt f120.body [1, 1, 1]) (f120.Q2 k) :=
  Eq.mpr (by kernel_rfl : okC Tryz.prog none .none (codeAt f120.body [1, 1, 1]) (f120.Q2 k) = (True)) (trivial)
theorem f120.J1_ok {k : Value → World → Prop} : OKJ Tryz.prog none (f120.J1p k) (codeAt f120.body [1, 1, 1]) (f120.Q2 k) := by
  intro a w h
  obtain ⟨D, us, ds, rfl, h0⟩ := PJ_out h
  obtain ⟨v, us, rfl, h1⟩ := un_out h0
  obtain ⟨s10, rfl, h2⟩ := asStr_out h1
  obtain ⟨rfl, h3⟩ := nl_out h2
  obtain ⟨rfl, h4⟩ := dn_out h3
  rw [← f120.J1_den D s10 k w] at h4
  exact pc_wp Tryz.mixed f120.J1_okc h4
theorem f120.L2_next {s2 : ByteArray} {I : ByteArray → Int → World → Prop} {μ : ByteArray → Int → World → Nat} {m : Nat} {s3 : ByteArray} {n4 : Int} {w : World} (hI : I s3 n4 w) (hlt : μ s3 n4 w < m) : f120.L2K s2 I μ m s2 s3 n4 w := ⟨rfl, hI, hlt⟩
theorem f120.L2_den (D : Nat → Value) (s2 : ByteArray) (s3 : ByteArray) (n4 : Int) (Kn1 : ByteArray → ByteArray → Int → World → Prop) (k : Value → World → Prop) (w : World) : pc Tryz.prog none .none (codeAt f120.body [1, 1, 0, 1, 0, 0]) (Exit.then (f120.L2k Kn1) (f120.Q1 k)) D 20 [19, 16, 15] [.string s2, .string s3, .int .i64 n4] [] w = f120.L2 s2 s3 n4 Kn1 k w := by kernel_rfl
theorem f120.L2_okc {Kn1 : ByteArray → ByteArray → Int → World → Prop} {k : Value → World → Prop} : okC Tryz.prog none .none (codeAt f120.body [1, 1, 0, 1, 0, 0]) (Exit.then (f120.L2k Kn1) (f120.Q1 k)) :=
  Eq.mpr (by kernel_rfl : okC Tryz.prog none .none (codeAt f120.body [1, 1, 0, 1, 0, 0]) (Exit.then (f120.L2k Kn1) (f120.Q1 k)) = (True)) (trivial)
theorem f120.L2_ok {k : Value → World → Prop} : OKJ Tryz.prog none (f120.L2p k) (codeAt f120.body [1, 1, 0, 1, 0]) (f120.Q1 k) := by
  intro a w h
  obtain ⟨D, us, ds, rfl, h0⟩ := PJ_out h
  obtain ⟨v, us, rfl, h1⟩ := un_out h0
  obtain ⟨s2, rfl, h2⟩ := asStr_out h1
  obtain ⟨v, us, rfl, h3⟩ := un_out h2
  obtain ⟨s3, rfl, h4⟩ := asStr_out h3
  obtain ⟨v, us, rfl, h5⟩ := un_out h4
  obtain ⟨n4, rfl, h6⟩ := asI_out h5
  obtain ⟨rfl, h7⟩ := nl_out h6
  obtain ⟨rfl, h8⟩ := dn_out h7
  rw [show (codeAt f120.body [1, 1, 0, 1, 0]) = Code.loop (codeAt f120.body [1, 1, 0, 1, 0, 0]) by kernel_rfl]
  exact h8 D
theorem f120.L2_rule {s2 : ByteArray} {k : Value → World → Prop} (I : ByteArray → Int → World → Prop) (μ : ByteArray → Int → World → Nat) {s3 : ByteArray} {n4 : Int} {w : World} (h0 : I s3 n4 w)
    (hr : ∀ (s3 : ByteArray) (n4 : Int) (w : World), I s3 n4 w → f120.L2 s2 s3 n4 (f120.L2K s2 I μ (μ s3 n4 w)) k w) : f120.L2lp s2 s3 n4 k w := by
  intro D0
  refine loop_ind (P := Tryz.prog) (fun m a w => ∃ s3 : ByteArray, ∃ n4 : Int, ∃ D : Nat → Value, a = fr D 20 [19, 16, 15] [.string s2, .string s3, .int .i64 n4] [] ∧ I s3 n4 w ∧ μ s3 n4 w = m) ?_ (μ s3 n4 w) ⟨_, _, D0, rfl, h0, rfl⟩
  rintro m a w ⟨s3, n4, D, rfl, hI, rfl⟩
  have h := hr s3 n4 w hI
  rw [← f120.L2_den D s2 s3 n4 (f120.L2K s2 I μ (μ s3 n4 w)) k w] at h
  refine then_mono (pc_wp Tryz.mixed f120.L2_okc h) ?_
  clear h
  intro a w h
  obtain ⟨D, us, ds, rfl, h0⟩ := PJ_out h
  obtain ⟨v, us, rfl, h1⟩ := un_out h0
  obtain ⟨s2', rfl, h2⟩ := asStr_out h1
  obtain ⟨v, us, rfl, h3⟩ := un_out h2
  obtain ⟨s3', rfl, h4⟩ := asStr_out h3
  obtain ⟨v, us, rfl, h5⟩ := un_out h4
  obtain ⟨n4', rfl, h6⟩ := asI_out h5
  obtain ⟨rfl, h7⟩ := nl_out h6
  obtain ⟨rfl, h8⟩ := dn_out h7
  obtain ⟨rfl, hI, hlt⟩ := h8
  exact ⟨_, hlt, _, _, D, rfl, hI, rfl⟩
def f120.b (s1 : ByteArray) (k : Value → World → Prop) (w : World) : Prop :=
  f120.L2lp s1 (⟨#[]⟩ : ByteArray) 0 k w
theorem f120.den (s1 : ByteArray) (k : Value → World → Prop) (w : World) : pc Tryz.prog none (.seq none .none (.seq none .none (.seq (some (f120.J1p k)) (.seq none .none (.block (.at (f120.L2p k)))) .none))) f120.body (retQ Tryz.prog [.tmp 2] k) (fun _ => undef) 20 [19] [.string s1] [] w = f120.b s1 k w := by kernel_rfl
theorem f120.okc {k : Value → World → Prop} : okC Tryz.prog none (.seq none .none (.seq none .none (.seq (some (f120.J1p k)) (.seq none .none (.block (.at (f120.L2p k)))) .none))) f120.body (retQ Tryz.prog [.tmp 2] k) :=
  Eq.mpr (by kernel_rfl : okC Tryz.prog none (.seq none .none (.seq none .none (.seq (some (f120.J1p k)) (.seq none .none (.block (.at (f120.L2p k)))) .none))) f120.body (retQ Tryz.prog [.tmp 2] k) = (((True) ∧ (((True) ∧ (((((True) ∧ (OKJ Tryz.prog none (f120.L2p k) (codeAt f120.body [1, 1, 0, 1, 0]) (f120.Q1 k)))) ∧ OKJ Tryz.prog none (f120.J1p k) (codeAt f120.body [1, 1, 1]) (f120.Q2 k)))))))) (⟨trivial, ⟨trivial, ⟨⟨trivial, f120.L2_ok⟩, f120.J1_ok⟩⟩⟩)
theorem f120.call {s1 : ByteArray} {k : Value → World → Prop} {w : World} (h : f120.b s1 k w) : CALL Tryz.prog 120 #[.string s1] k w :=
  calls_of_pc Tryz.mixed Tryz.func120 (by kernel_rfl : Tryz.f120.body = some f120.body) (Tryz.call120 _ _) (by kernel_rfl : #[.string s1] ++ Array.replicate (Tryz.f120.ntmps - (#[.string s1] : Array Value).size) undef = (FR (fun _ => undef) 20 [19] [.string s1]).toArray) (by kernel_rfl : Tryz.f120.results.toList = [.tmp 2]) f120.okc ((f120.den s1 k w).symm ▸ h)

/-! rollcall/fold.Byte -/
noncomputable def f136.body : Code := (Tryz.f136.body).getD .skip
def f136.b (n1 : Int) (k : Value → World → Prop) (w : World) : Prop :=
  brK (decide ((65 : Int) ≤ n1)) (brK (decide (n1 ≤ 90)) (k (.int .u8 (IntKind.wrap .u8 (n1 + 32))) w) (brK (n1 == 91) (k (.int .u8 (IntKind.wrap .u8 (n1 + 32))) w) (brK (n1 == 93) (k (.int .u8 (IntKind.wrap .u8 (n1 + 32))) w) (brK (n1 == 92) (k (.int .u8 (IntKind.wrap .u8 (n1 + 32))) w) (brK (n1 == 126) (k (.int .u8 94) w) (k (.int .u8 n1) w)))))) (brK (n1 == 91) (k (.int .u8 (IntKind.wrap .u8 (n1 + 32))) w) (brK (n1 == 93) (k (.int .u8 (IntKind.wrap .u8 (n1 + 32))) w) (brK (n1 == 92) (k (.int .u8 (IntKind.wrap .u8 (n1 + 32))) w) (brK (n1 == 126) (k (.int .u8 94) w) (k (.int .u8 n1) w)))))
theorem f136.den (n1 : Int) (k : Value → World → Prop) (w : World) : pc Tryz.prog none .none f136.body (retQ Tryz.prog [.tmp 2] k) (fun _ => undef) 29 [28] [.int .u8 n1] [] w = f136.b n1 k w := by kernel_rfl
theorem f136.okc {k : Value → World → Prop} : okC Tryz.prog none .none f136.body (retQ Tryz.prog [.tmp 2] k) :=
  Eq.mpr (by kernel_rfl : okC Tryz.prog none .none f136.body (retQ Tryz.prog [.tmp 2] k) = (True)) (trivial)
theorem f136.call {n1 : Int} {k : Value → World → Prop} {w : World} (h : f136.b n1 k w) : CALL Tryz.prog 136 #[.int .u8 n1] k w :=
  calls_of_pc Tryz.mixed Tryz.func136 (by kernel_rfl : Tryz.f136.body = some f136.body) (Tryz.call136 _ _) (by kernel_rfl : #[.int .u8 n1] ++ Array.replicate (Tryz.f136.ntmps - (#[.int .u8 n1] : Array Value).size) undef = (FR (fun _ => undef) 29 [28] [.int .u8 n1]).toArray) (by kernel_rfl : Tryz.f136.results.toList = [.tmp 2]) f136.okc ((f136.den n1 k w).symm ▸ h)
end Go.Proofs.YtlefdgplobifiaaGreatDoor
