/- Printed by gen2.py: the functions' bodies over the primitives of Den, in pieces. -/
import Derived.Test.YtlefdgplobifiaaGreatDoorCut
import Derived.Test.YtlefdgplobifiaaGreatDoorKit
namespace Go.Proofs.YtlefdgplobifiaaGreatDoor
open Go
set_option maxRecDepth 100000
set_option linter.unusedVariables false
/-! (*rollcall/room.Room).Change -/
noncomputable def f15.body : Code := (Tryz.f15.body).getD .skip
def f15.J5 (p36 : Option Addr) (n37 : Int) (q38 : Nat) (q39 : Nat) (k : Value → World → Prop) (w : World) : Prop :=
  LD Value.bool (Addr.add ⟨q38, 0, none⟩ 0) (fun b40 w => LD (Value.int .u8) (Addr.add ⟨q38, 0, none⟩ 1) (fun n41 w => LD Value.string (Addr.add ⟨q38, 0, none⟩ 2) (fun s42 w => CALL Tryz.prog 41 #[.pointer p36, .agg #[.bool b40, .int .u8 n41, .string s42], .int .i64 n37] (fun v43 w => ∃ b44 : Bool, ∃ n45 : Int, ∃ s46 : ByteArray, ∃ n47 : Int, v43 = .tuple #[.agg #[.bool b44, .int .u8 n45, .string s46], .int .i64 n47] ∧ ST (Addr.add ⟨q39, 0, none⟩ 0) (.bool b44) (fun w => ST (Addr.add ⟨q39, 0, none⟩ 1) (.int .u8 n45) (fun w => ST (Addr.add ⟨q39, 0, none⟩ 2) (.string s46) (fun w => LD Value.bool (Addr.add ⟨q39, 0, none⟩ 0) (fun b48 w => LD (Value.int .u8) (Addr.add ⟨q39, 0, none⟩ 1) (fun n49 w => LD Value.string (Addr.add ⟨q39, 0, none⟩ 2) (fun s50 w => k (.tuple #[.agg #[.bool b48, .int .u8 n49, .string s50], .int .i64 n47]) w) w) w) w) w) w) w) w) w) w) w
def f15.J4 (p51 : Option Addr) (q52 : Nat) (q53 : Nat) (k : Value → World → Prop) (w : World) : Prop :=
  LD Value.bool (Addr.add ⟨q52, 0, none⟩ 0) (fun b54 w => LD (Value.int .u8) (Addr.add ⟨q52, 0, none⟩ 1) (fun n55 w => LD Value.string (Addr.add ⟨q52, 0, none⟩ 2) (fun s56 w => CALL Tryz.prog 42 #[.pointer p51, .agg #[.bool b54, .int .u8 n55, .string s56]] (fun v57 w => ∃ b58 : Bool, ∃ n59 : Int, ∃ s60 : ByteArray, ∃ n61 : Int, v57 = .tuple #[.agg #[.bool b58, .int .u8 n59, .string s60], .int .i64 n61] ∧ ST (Addr.add ⟨q53, 0, none⟩ 0) (.bool b58) (fun w => ST (Addr.add ⟨q53, 0, none⟩ 1) (.int .u8 n59) (fun w => ST (Addr.add ⟨q53, 0, none⟩ 2) (.string s60) (fun w => LD Value.bool (Addr.add ⟨q53, 0, none⟩ 0) (fun b62 w => LD (Value.int .u8) (Addr.add ⟨q53, 0, none⟩ 1) (fun n63 w => LD Value.string (Addr.add ⟨q53, 0, none⟩ 2) (fun s64 w => k (.tuple #[.agg #[.bool b62, .int .u8 n63, .string s64], .int .i64 n61]) w) w) w) w) w) w) w) w) w) w) w
def f15.J3 (p65 : Option Addr) (q66 : Nat) (q67 : Nat) (k : Value → World → Prop) (w : World) : Prop :=
  LD Value.bool (Addr.add ⟨q66, 0, none⟩ 0) (fun b68 w => LD (Value.int .u8) (Addr.add ⟨q66, 0, none⟩ 1) (fun n69 w => LD Value.string (Addr.add ⟨q66, 0, none⟩ 2) (fun s70 w => CALL Tryz.prog 43 #[.pointer p65, .agg #[.bool b68, .int .u8 n69, .string s70]] (fun v71 w => ∃ b72 : Bool, ∃ n73 : Int, ∃ s74 : ByteArray, v71 = .agg #[.bool b72, .int .u8 n73, .string s74] ∧ ST (Addr.add ⟨q67, 0, none⟩ 0) (.bool b72) (fun w => ST (Addr.add ⟨q67, 0, none⟩ 1) (.int .u8 n73) (fun w => ST (Addr.add ⟨q67, 0, none⟩ 2) (.string s74) (fun w => LD Value.bool (Addr.add ⟨q67, 0, none⟩ 0) (fun b75 w => LD (Value.int .u8) (Addr.add ⟨q67, 0, none⟩ 1) (fun n76 w => LD Value.string (Addr.add ⟨q67, 0, none⟩ 2) (fun s77 w => k (.tuple #[.agg #[.bool b75, .int .u8 n76, .string s77], .int .i64 0]) w) w) w) w) w) w) w) w) w) w) w
def f15.J2 (p78 : Option Addr) (q79 : Nat) (q80 : Nat) (k : Value → World → Prop) (w : World) : Prop :=
  LD Value.bool (Addr.add ⟨q79, 0, none⟩ 0) (fun b81 w => LD (Value.int .u8) (Addr.add ⟨q79, 0, none⟩ 1) (fun n82 w => LD Value.string (Addr.add ⟨q79, 0, none⟩ 2) (fun s83 w => CALL Tryz.prog 44 #[.pointer p78, .agg #[.bool b81, .int .u8 n82, .string s83]] (fun v84 w => ∃ b85 : Bool, ∃ n86 : Int, ∃ s87 : ByteArray, ∃ n88 : Int, v84 = .tuple #[.agg #[.bool b85, .int .u8 n86, .string s87], .int .i64 n88] ∧ ST (Addr.add ⟨q80, 0, none⟩ 0) (.bool b85) (fun w => ST (Addr.add ⟨q80, 0, none⟩ 1) (.int .u8 n86) (fun w => ST (Addr.add ⟨q80, 0, none⟩ 2) (.string s87) (fun w => LD Value.bool (Addr.add ⟨q80, 0, none⟩ 0) (fun b89 w => LD (Value.int .u8) (Addr.add ⟨q80, 0, none⟩ 1) (fun n90 w => LD Value.string (Addr.add ⟨q80, 0, none⟩ 2) (fun s91 w => k (.tuple #[.agg #[.bool b89, .int .u8 n90, .string s91], .int .i64 n88]) w) w) w) w) w) w) w) w) w) w) w
def f15.J1 (q92 : Nat) (k : Value → World → Prop) (w : World) : Prop :=
  ST (Addr.add ⟨q92, 0, none⟩ 0) (.bool false) (fun w => ST (Addr.add ⟨q92, 0, none⟩ 1) (.int .u8 0) (fun w => ST (Addr.add ⟨q92, 0, none⟩ 2) (.string (⟨#[]⟩ : ByteArray)) (fun w => LD Value.bool (Addr.add ⟨q92, 0, none⟩ 0) (fun b93 w => LD (Value.int .u8) (Addr.add ⟨q92, 0, none⟩ 1) (fun n94 w => LD Value.string (Addr.add ⟨q92, 0, none⟩ 2) (fun s95 w => k (.tuple #[.agg #[.bool b93, .int .u8 n94, .string s95], .int .i64 472]) w) w) w) w) w) w) w
def f15.J7 (p31 : Option Addr) (n32 : Int) (q33 : Nat) (q34 : Nat) (n35 : Int) (k : Value → World → Prop) (w : World) : Prop :=
  brK (n35 == 111) (f15.J5 p31 n32 q33 q34 k w) (brK (n35 == 118) (f15.J5 p31 n32 q33 q34 k w) (brK (n35 == 107) (f15.J4 p31 q33 q34 k w) (brK (n35 == 108) (f15.J3 p31 q33 q34 k w) (brK (n35 == 98) (f15.J2 p31 q33 q34 k w) (f15.J1 q34 k w)))))
def f15.J7p (k : Value → World → Prop) : Act → World → Prop := PJ 52 [51, 49, 47, 45, 39] fun us ds w => un us fun v us => asP v fun p31 => un us fun v us => asI .i64 v fun n32 => un us fun v us => asBox v fun q33 => un us fun v us => asBox v fun q34 => un us fun v us => asI .u8 v fun n35 => nl us (dn ds (f15.J7 p31 n32 q33 q34 n35 k w))
def f15.J6 (p18 : Option Addr) (q19 : Nat) (q20 : Nat) (k : Value → World → Prop) (w : World) : Prop :=
  LD Value.bool (Addr.add ⟨q19, 0, none⟩ 0) (fun b21 w => LD (Value.int .u8) (Addr.add ⟨q19, 0, none⟩ 1) (fun n22 w => LD Value.string (Addr.add ⟨q19, 0, none⟩ 2) (fun s23 w => CALL Tryz.prog 40 #[.pointer p18, .agg #[.bool b21, .int .u8 n22, .string s23]] (fun v24 w => ∃ b25 : Bool, ∃ n26 : Int, ∃ s27 : ByteArray, v24 = .agg #[.bool b25, .int .u8 n26, .string s27] ∧ ST (Addr.add ⟨q20, 0, none⟩ 0) (.bool b25) (fun w => ST (Addr.add ⟨q20, 0, none⟩ 1) (.int .u8 n26) (fun w => ST (Addr.add ⟨q20, 0, none⟩ 2) (.string s27) (fun w => LD Value.bool (Addr.add ⟨q20, 0, none⟩ 0) (fun b28 w => LD (Value.int .u8) (Addr.add ⟨q20, 0, none⟩ 1) (fun n29 w => LD Value.string (Addr.add ⟨q20, 0, none⟩ 2) (fun s30 w => k (.tuple #[.agg #[.bool b28, .int .u8 n29, .string s30], .int .i64 0]) w) w) w) w) w) w) w) w) w) w) w
def f15.J6p (k : Value → World → Prop) : Act → World → Prop := PJ 52 [51, 47, 45] fun us ds w => un us fun v us => asP v fun p18 => un us fun v us => asBox v fun q19 => un us fun v us => asBox v fun q20 => nl us (dn ds (f15.J6 p18 q19 q20 k w))
def f15.J5p (k : Value → World → Prop) : Act → World → Prop := PJ 52 [51, 49, 47, 45] fun us ds w => un us fun v us => asP v fun p36 => un us fun v us => asI .i64 v fun n37 => un us fun v us => asBox v fun q38 => un us fun v us => asBox v fun q39 => nl us (dn ds (f15.J5 p36 n37 q38 q39 k w))
def f15.J4p (k : Value → World → Prop) : Act → World → Prop := PJ 52 [51, 47, 45] fun us ds w => un us fun v us => asP v fun p51 => un us fun v us => asBox v fun q52 => un us fun v us => asBox v fun q53 => nl us (dn ds (f15.J4 p51 q52 q53 k w))
def f15.J3p (k : Value → World → Prop) : Act → World → Prop := PJ 52 [51, 47, 45] fun us ds w => un us fun v us => asP v fun p65 => un us fun v us => asBox v fun q66 => un us fun v us => asBox v fun q67 => nl us (dn ds (f15.J3 p65 q66 q67 k w))
def f15.J2p (k : Value → World → Prop) : Act → World → Prop := PJ 52 [51, 47, 45] fun us ds w => un us fun v us => asP v fun p78 => un us fun v us => asBox v fun q79 => un us fun v us => asBox v fun q80 => nl us (dn ds (f15.J2 p78 q79 q80 k w))
def f15.J1p (k : Value → World → Prop) : Act → World → Prop := PJ 52 [45] fun us ds w => un us fun v us => asBox v fun q92 => nl us (dn ds (f15.J1 q92 k w))
def f15.Q1 (k : Value → World → Prop) : Exit → Act → World → Prop := (Exit.then (f15.J7p k) (Exit.then (den Tryz.prog none (codeAt f15.body [1, 1, 0, 1, 0, 0, 0, 0, 0, 0, 0, 0, 0, 0, 0, 0, 1]) (Exit.inBlock 1 (Exit.then (f15.J6p k) (Exit.inBlock 2 (Exit.inBlock 3 (Exit.then (f15.J5p k) (Exit.inBlock 4 (Exit.then (f15.J4p k) (Exit.inBlock 5 (Exit.then (f15.J3p k) (Exit.inBlock 6 (Exit.then (f15.J2p k) (Exit.inBlock 0 (Exit.then (f15.J1p k) (retQ Tryz.prog [.cell 6 24, .tmp 7] k))))))))))))))) (Exit.inBlock 1 (Exit.then (f15.J6p k) (Exit.inBlock 2 (Exit.inBlock 3 (Exit.then (f15.J5p k) (Exit.inBlock 4 (Exit.then (f15.J4p k) (Exit.inBlock 5 (Exit.then (f15.J3p k) (Exit.inBlock 6 (Exit.then (f15.J2p k) (Exit.inBlock 0 (Exit.then (f15.J1p k) (retQ Tryz.prog [.cell 6 24, .tmp 7] k))))))))))))))))
def f15.Q2 (k : Value → World → Prop) : Exit → Act → World → Prop := (Exit.inBlock 2 (Exit.inBlock 3 (Exit.then (f15.J5p k) (Exit.inBlock 4 (Exit.then (f15.J4p k) (Exit.inBlock 5 (Exit.then (f15.J3p k) (Exit.inBlock 6 (Exit.then (f15.J2p k) (Exit.inBlock 0 (Exit.then (f15.J1p k) (retQ Tryz.prog [.cell 6 24, .tmp 7] k))))))))))))
def f15.Q3 (k : Value → World → Prop) : Exit → Act → World → Prop := (Exit.then (den Tryz.prog none (codeAt f15.body [1, 1, 0, 1, 0, 0, 0, 0, 0, 0, 0, 0, 0, 0, 0, 0, 1]) (Exit.inBlock 1 (Exit.then (f15.J6p k) (Exit.inBlock 2 (Exit.inBlock 3 (Exit.then (f15.J5p k) (Exit.inBlock 4 (Exit.then (f15.J4p k) (Exit.inBlock 5 (Exit.then (f15.J3p k) (Exit.inBlock 6 (Exit.then (f15.J2p k) (Exit.inBlock 0 (Exit.then (f15.J1p k) (retQ Tryz.prog [.cell 6 24, .tmp 7] k))))))))))))))) (Exit.inBlock 1 (Exit.then (f15.J6p k) (Exit.inBlock 2 (Exit.inBlock 3 (Exit.then (f15.J5p k) (Exit.inBlock 4 (Exit.then (f15.J4p k) (Exit.inBlock 5 (Exit.then (f15.J3p k) (Exit.inBlock 6 (Exit.then (f15.J2p k) (Exit.inBlock 0 (Exit.then (f15.J1p k) (retQ Tryz.prog [.cell 6 24, .tmp 7] k)))))))))))))))
def f15.Q4 (k : Value → World → Prop) : Exit → Act → World → Prop := (Exit.inBlock 4 (Exit.then (f15.J4p k) (Exit.inBlock 5 (Exit.then (f15.J3p k) (Exit.inBlock 6 (Exit.then (f15.J2p k) (Exit.inBlock 0 (Exit.then (f15.J1p k) (retQ Tryz.prog [.cell 6 24, .tmp 7] k)))))))))
def f15.Q5 (k : Value → World → Prop) : Exit → Act → World → Prop := (Exit.inBlock 5 (Exit.then (f15.J3p k) (Exit.inBlock 6 (Exit.then (f15.J2p k) (Exit.inBlock 0 (Exit.then (f15.J1p k) (retQ Tryz.prog [.cell 6 24, .tmp 7] k)))))))
def f15.Q6 (k : Value → World → Prop) : Exit → Act → World → Prop := (Exit.inBlock 6 (Exit.then (f15.J2p k) (Exit.inBlock 0 (Exit.then (f15.J1p k) (retQ Tryz.prog [.cell 6 24, .tmp 7] k)))))
def f15.Q7 (k : Value → World → Prop) : Exit → Act → World → Prop := (Exit.inBlock 0 (Exit.then (f15.J1p k) (retQ Tryz.prog [.cell 6 24, .tmp 7] k)))
def f15.Q8 (k : Value → World → Prop) : Exit → Act → World → Prop := (retQ Tryz.prog [.cell 6 24, .tmp 7] k)
def f15.J8 (p12 : Option Addr) (n13 : Int) (q14 : Nat) (q15 : Nat) (n16 : Int) (b17 : Bool) (k : Value → World → Prop) (w : World) : Prop :=
  brK b17 (f15.J6 p12 q14 q15 k w) (f15.J7 p12 n13 q14 q15 n16 k w)
def f15.J8p (k : Value → World → Prop) : Act → World → Prop := PJ 52 [51, 49, 47, 45, 39, 38] fun us ds w => un us fun v us => asP v fun p12 => un us fun v us => asI .i64 v fun n13 => un us fun v us => asBox v fun q14 => un us fun v us => asBox v fun q15 => un us fun v us => asI .u8 v fun n16 => un us fun v us => asB v fun b17 => nl us (dn ds (f15.J8 p12 n13 q14 q15 n16 b17 k w))
theorem f15.J6_den (D : Nat → Value) (p18 : Option Addr) (q19 : Nat) (q20 : Nat) (k : Value → World → Prop) (w : World) : pc Tryz.prog none .none (codeAt f15.body [1, 1, 0, 1, 0, 0, 0, 0, 0, 0, 0, 0, 0, 0, 1]) (f15.Q2 k) D 52 [51, 47, 45] [.pointer p18, .pointer (some ⟨q19, 0, none⟩), .pointer (some ⟨q20, 0, none⟩)] [] w = f15.J6 p18 q19 q20 k w := by kernel_rfl
theorem f15.J6_okc {k : Value → World → Prop} : okC Tryz.prog none .none (codeAt f15.body [1, 1, 0, 1, 0, 0, 0, 0, 0, 0, 0, 0, 0, 0, 1]) (f15.Q2 k) :=
  Eq.mpr (by kernel_rfl : okC Tryz.prog none .none (codeAt f15.body [1, 1, 0, 1, 0, 0, 0, 0, 0, 0, 0, 0, 0, 0, 1]) (f15.Q2 k) = (True)) (trivial)
theorem f15.J6_ok {k : Value → World → Prop} : OKJ Tryz.prog none (f15.J6p k) (codeAt f15.body [1, 1, 0, 1, 0, 0, 0, 0, 0, 0, 0, 0, 0, 0, 1]) (f15.Q2 k) := by
  intro a w h
  obtain ⟨D, us, ds, rfl, h0⟩ := PJ_out h
  obtain ⟨v, us, rfl, h1⟩ := un_out h0
  obtain ⟨p18, rfl, h2⟩ := asP_out h1
  obtain ⟨v, us, rfl, h3⟩ := un_out h2
  obtain ⟨q19, rfl, h4⟩ := asBox_out h3
  obtain ⟨v, us, rfl, h5⟩ := un_out h4
  obtain ⟨q20, rfl, h6⟩ := asBox_out h5
  obtain ⟨rfl, h7⟩ := nl_out h6
  obtain ⟨rfl, h8⟩ := dn_out h7
  rw [← f15.J6_den D p18 q19 q20 k w] at h8
  exact pc_wp Tryz.mixed f15.J6_okc h8
theorem f15.J5_den (D : Nat → Value) (p36 : Option Addr) (n37 : Int) (q38 : Nat) (q39 : Nat) (k : Value → World → Prop) (w : World) : pc Tryz.prog none .none (codeAt f15.body [1, 1, 0, 1, 0, 0, 0, 0, 0, 0, 0, 1]) (f15.Q4 k) D 52 [51, 49, 47, 45] [.pointer p36, .int .i64 n37, .pointer (some ⟨q38, 0, none⟩), .pointer (some ⟨q39, 0, none⟩)] [] w = f15.J5 p36 n37 q38 q39 k w := by kernel_rfl
theorem f15.J5_okc {k : Value → World → Prop} : okC Tryz.prog none .none (codeAt f15.body [1, 1, 0, 1, 0, 0, 0, 0, 0, 0, 0, 1]) (f15.Q4 k) :=
  Eq.mpr (by kernel_rfl : okC Tryz.prog none .none (codeAt f15.body [1, 1, 0, 1, 0, 0, 0, 0, 0, 0, 0, 1]) (f15.Q4 k) = (True)) (trivial)
theorem f15.J5_ok {k : Value → World → Prop} : OKJ Tryz.prog none (f15.J5p k) (codeAt f15.body [1, 1, 0, 1, 0, 0, 0, 0, 0, 0, 0, 1]) (f15.Q4 k) := by
  intro a w h
  obtain ⟨D, us, ds, rfl, h0⟩ := PJ_out h
  obtain ⟨v, us, rfl, h1⟩ := un_out h0
  obtain ⟨p36, rfl, h2⟩ := asP_out h1
  obtain ⟨v, us, rfl, h3⟩ := un_out h2
  obtain ⟨n37, rfl, h4⟩ := asI_out h3
  obtain ⟨v, us, rfl, h5⟩ := un_out h4
  obtain ⟨q38, rfl, h6⟩ := asBox_out h5
  obtain ⟨v, us, rfl, h7⟩ := un_out h6
  obtain ⟨q39, rfl, h8⟩ := asBox_out h7
  obtain ⟨rfl, h9⟩ := nl_out h8
  obtain ⟨rfl, h10⟩ := dn_out h9
  rw [← f15.J5_den D p36 n37 q38 q39 k w] at h10
  exact pc_wp Tryz.mixed f15.J5_okc h10
theorem f15.J4_den (D : Nat → Value) (p51 : Option Addr) (q52 : Nat) (q53 : Nat) (k : Value → World → Prop) (w : World) : pc Tryz.prog none .none (codeAt f15.body [1, 1, 0, 1, 0, 0, 0, 0, 0, 1]) (f15.Q5 k) D 52 [51, 47, 45] [.pointer p51, .pointer (some ⟨q52, 0, none⟩), .pointer (some ⟨q53, 0, none⟩)] [] w = f15.J4 p51 q52 q53 k w := by kernel_rfl
theorem f15.J4_okc {k : Value → World → Prop} : okC Tryz.prog none .none (codeAt f15.body [1, 1, 0, 1, 0, 0, 0, 0, 0, 1]) (f15.Q5 k) :=
  Eq.mpr (by kernel_rfl : okC Tryz.prog none .none (codeAt f15.body [1, 1, 0, 1, 0, 0, 0, 0, 0, 1]) (f15.Q5 k) = (True)) (trivial)
theorem f15.J4_ok {k : Value → World → Prop} : OKJ Tryz.prog none (f15.J4p k) (codeAt f15.body [1, 1, 0, 1, 0, 0, 0, 0, 0, 1]) (f15.Q5 k) := by
  intro a w h
  obtain ⟨D, us, ds, rfl, h0⟩ := PJ_out h
  obtain ⟨v, us, rfl, h1⟩ := un_out h0
  obtain ⟨p51, rfl, h2⟩ := asP_out h1
  obtain ⟨v, us, rfl, h3⟩ := un_out h2
  obtain ⟨q52, rfl, h4⟩ := asBox_out h3
  obtain ⟨v, us, rfl, h5⟩ := un_out h4
  obtain ⟨q53, rfl, h6⟩ := asBox_out h5
  obtain ⟨rfl, h7⟩ := nl_out h6
  obtain ⟨rfl, h8⟩ := dn_out h7
  rw [← f15.J4_den D p51 q52 q53 k w] at h8
  exact pc_wp Tryz.mixed f15.J4_okc h8
theorem f15.J3_den (D : Nat → Value) (p65 : Option Addr) (q66 : Nat) (q67 : Nat) (k : Value → World → Prop) (w : World) : pc Tryz.prog none .none (codeAt f15.body [1, 1, 0, 1, 0, 0, 0, 1]) (f15.Q6 k) D 52 [51, 47, 45] [.pointer p65, .pointer (some ⟨q66, 0, none⟩), .pointer (some ⟨q67, 0, none⟩)] [] w = f15.J3 p65 q66 q67 k w := by kernel_rfl
theorem f15.J3_okc {k : Value → World → Prop} : okC Tryz.prog none .none (codeAt f15.body [1, 1, 0, 1, 0, 0, 0, 1]) (f15.Q6 k) :=
  Eq.mpr (by kernel_rfl : okC Tryz.prog none .none (codeAt f15.body [1, 1, 0, 1, 0, 0, 0, 1]) (f15.Q6 k) = (True)) (trivial)
theorem f15.J3_ok {k : Value → World → Prop} : OKJ Tryz.prog none (f15.J3p k) (codeAt f15.body [1, 1, 0, 1, 0, 0, 0, 1]) (f15.Q6 k) := by
  intro a w h
  obtain ⟨D, us, ds, rfl, h0⟩ := PJ_out h
  obtain ⟨v, us, rfl, h1⟩ := un_out h0
  obtain ⟨p65, rfl, h2⟩ := asP_out h1
  obtain ⟨v, us, rfl, h3⟩ := un_out h2
  obtain ⟨q66, rfl, h4⟩ := asBox_out h3
  obtain ⟨v, us, rfl, h5⟩ := un_out h4
  obtain ⟨q67, rfl, h6⟩ := asBox_out h5
  obtain ⟨rfl, h7⟩ := nl_out h6
  obtain ⟨rfl, h8⟩ := dn_out h7
  rw [← f15.J3_den D p65 q66 q67 k w] at h8
  exact pc_wp Tryz.mixed f15.J3_okc h8
theorem f15.J2_den (D : Nat → Value) (p78 : Option Addr) (q79 : Nat) (q80 : Nat) (k : Value → World → Prop) (w : World) : pc Tryz.prog none .none (codeAt f15.body [1, 1, 0, 1, 0, 1]) (f15.Q7 k) D 52 [51, 47, 45] [.pointer p78, .pointer (some ⟨q79, 0, none⟩), .pointer (some ⟨q80, 0, none⟩)] [] w = f15.J2 p78 q79 q80 k w := by kernel_rfl
theorem f15.J2_okc {k : Value → World → Prop} : okC Tryz.prog none .none (codeAt f15.body [1, 1, 0, 1, 0, 1]) (f15.Q7 k) :=
  Eq.mpr (by kernel_rfl : okC Tryz.prog none .none (codeAt f15.body [1, 1, 0, 1, 0, 1]) (f15.Q7 k) = (True)) (trivial)
theorem f15.J2_ok {k : Value → World → Prop} : OKJ Tryz.prog none (f15.J2p k) (codeAt f15.body [1, 1, 0, 1, 0, 1]) (f15.Q7 k) := by
  intro a w h
  obtain ⟨D, us, ds, rfl, h0⟩ := PJ_out h
  obtain ⟨v, us, rfl, h1⟩ := un_out h0
  obtain ⟨p78, rfl, h2⟩ := asP_out h1
  obtain ⟨v, us, rfl, h3⟩ := un_out h2
  obtain ⟨q79, rfl, h4⟩ := asBox_out h3
  obtain ⟨v, us, rfl, h5⟩ := un_out h4
  obtain ⟨q80, rfl, h6⟩ := asBox_out h5
  obtain ⟨rfl, h7⟩ := nl_out h6
  obtain ⟨rfl, h8⟩ := dn_out h7
  rw [← f15.J2_den D p78 q79 q80 k w] at h8
  exact pc_wp Tryz.mixed f15.J2_okc h8
theorem f15.J1_den (D : Nat → Value) (q92 : Nat) (k : Value → World → Prop) (w : World) : pc Tryz.prog none .none (codeAt f15.body [1, 1, 1]) (f15.Q8 k) D 52 [45] [.pointer (some ⟨q92, 0, none⟩)] [] w = f15.J1 q92 k w := by kernel_rfl
theorem f15.J1_okc {k : Value → World → Prop} : okC Tryz.prog none .none (codeAt f15.body [1, 1, 1]) (f15.Q8 k) :=
  Eq.mpr (by kernel_rfl : okC Tryz.prog none .none (codeAt f15.body [1, 1, 1]) (f15.Q8 k) = (True)) (trivial)
theorem f15.J1_ok {k : Value → World → Prop} : OKJ Tryz.prog none (f15.J1p k) (codeAt f15.body [1, 1, 1]) (f15.Q8 k) := by
  intro a w h
  obtain ⟨D, us, ds, rfl, h0⟩ := PJ_out h
  obtain ⟨v, us, rfl, h1⟩ := un_out h0
  obtain ⟨q92, rfl, h2⟩ := asBox_out h1
  obtain ⟨rfl, h3⟩ := nl_out h2
  obtain ⟨rfl, h4⟩ := dn_out h3
  rw [← f15.J1_den D q92 k w] at h4
  exact pc_wp Tryz.mixed f15.J1_okc h4
theorem f15.J7_den (D : Nat → Value) (p31 : Option Addr) (n32 : Int) (q33 : Nat) (q34 : Nat) (n35 : Int) (k : Value → World → Prop) (w : World) : pc Tryz.prog none .none (codeAt f15.body [1, 1, 0, 1, 0, 0, 0, 0, 0, 0, 0, 0, 0, 0, 0, 0, 0, 1]) (f15.Q3 k) D 52 [51, 49, 47, 45, 39] [.pointer p31, .int .i64 n32, .pointer (some ⟨q33, 0, none⟩), .pointer (some ⟨q34, 0, none⟩), .int .u8 n35] [] w = f15.J7 p31 n32 q33 q34 n35 k w := by kernel_rfl
theorem f15.J7_okc {k : Value → World → Prop} : okC Tryz.prog none .none (codeAt f15.body [1, 1, 0, 1, 0, 0, 0, 0, 0, 0, 0, 0, 0, 0, 0, 0, 0, 1]) (f15.Q3 k) :=
  Eq.mpr (by kernel_rfl : okC Tryz.prog none .none (codeAt f15.body [1, 1, 0, 1, 0, 0, 0, 0, 0, 0, 0, 0, 0, 0, 0, 0, 0, 1]) (f15.Q3 k) = (True)) (trivial)
theorem f15.J7_ok {k : Value → World → Prop} : OKJ Tryz.prog none (f15.J7p k) (codeAt f15.body [1, 1, 0, 1, 0, 0, 0, 0, 0, 0, 0, 0, 0, 0, 0, 0, 0, 1]) (f15.Q3 k) := by
  intro a w h
  obtain ⟨D, us, ds, rfl, h0⟩ := PJ_out h
  obtain ⟨v, us, rfl, h1⟩ := un_out h0
  obtain ⟨p31, rfl, h2⟩ := asP_out h1
  obtain ⟨v, us, rfl, h3⟩ := un_out h2
  obtain ⟨n32, rfl, h4⟩ := asI_out h3
  obtain ⟨v, us, rfl, h5⟩ := un_out h4
  obtain ⟨q33, rfl, h6⟩ := asBox_out h5
  obtain ⟨v, us, rfl, h7⟩ := un_out h6
  obtain ⟨q34, rfl, h8⟩ := asBox_out h7
  obtain ⟨v, us, rfl, h9⟩ := un_out h8
  obtain ⟨n35, rfl, h10⟩ := asI_out h9
  obtain ⟨rfl, h11⟩ := nl_out h10
  obtain ⟨rfl, h12⟩ := dn_out h11
  rw [← f15.J7_den D p31 n32 q33 q34 n35 k w] at h12
  exact pc_wp Tryz.mixed f15.J7_okc h12
theorem f15.J8_den (D : Nat → Value) (p12 : Option Addr) (n13 : Int) (q14 : Nat) (q15 : Nat) (n16 : Int) (b17 : Bool) (k : Value → World → Prop) (w : World) : pc Tryz.prog none .none (codeAt f15.body [1, 1, 0, 1, 0, 0, 0, 0, 0, 0, 0, 0, 0, 0, 0, 0, 0, 0, 1]) (f15.Q1 k) D 52 [51, 49, 47, 45, 39, 38] [.pointer p12, .int .i64 n13, .pointer (some ⟨q14, 0, none⟩), .pointer (some ⟨q15, 0, none⟩), .int .u8 n16, .bool b17] [] w = f15.J8 p12 n13 q14 q15 n16 b17 k w := by kernel_rfl
theorem f15.J8_okc {k : Value → World → Prop} : okC Tryz.prog none .none (codeAt f15.body [1, 1, 0, 1, 0, 0, 0, 0, 0, 0, 0, 0, 0, 0, 0, 0, 0, 0, 1]) (f15.Q1 k) :=
  Eq.mpr (by kernel_rfl : okC Tryz.prog none .none (codeAt f15.body [1, 1, 0, 1, 0, 0, 0, 0, 0, 0, 0, 0, 0, 0, 0, 0, 0, 0, 1]) (f15.Q1 k) = (True)) (trivial)
theorem f15.J8_ok {k : Value → World → Prop} : OKJ Tryz.prog none (f15.J8p k) (codeAt f15.body [1, 1, 0, 1, 0, 0, 0, 0, 0, 0, 0, 0, 0, 0, 0, 0, 0, 0, 1]) (f15.Q1 k) := by
  intro a w h
  obtain ⟨D, us, ds, rfl, h0⟩ := PJ_out h
  obtain ⟨v, us, rfl, h1⟩ := un_out h0
  obtain ⟨p12, rfl, h2⟩ := asP_out h1
  obtain ⟨v, us, rfl, h3⟩ := un_out h2
  obtain ⟨n13, rfl, h4⟩ := asI_out h3
  obtain ⟨v, us, rfl, h5⟩ := un_out h4
  obtain ⟨q14, rfl, h6⟩ := asBox_out h5
  obtain ⟨v, us, rfl, h7⟩ := un_out h6
  obtain ⟨q15, rfl, h8⟩ := asBox_out h7
  obtain ⟨v, us, rfl, h9⟩ := un_out h8
  obtain ⟨n16, rfl, h10⟩ := asI_out h9
  obtain ⟨v, us, rfl, h11⟩ := un_out h10
  obtain ⟨b17, rfl, h12⟩ := asB_out h11
  obtain ⟨rfl, h13⟩ := nl_out h12
  obtain ⟨rfl, h14⟩ := dn_out h13
  rw [← f15.J8_den D p12 n13 q14 q15 n16 b17 k w] at h14
  exact pc_wp Tryz.mixed f15.J8_okc h14
def f15.b (p1 : Option Addr) (b2 : Bool) (n3 : Int) (s4 : ByteArray) (n5 : Int) (k : Value → World → Prop) (w : World) : Prop :=
  AL (.cells #[.bool b2, .int .u8 n3, .string s4] 24) (fun q6 w => AL (.cells #[.bool false, .int .u8 0, .string (⟨#[]⟩ : ByteArray)] 24) (fun q7 w => brK p1.isNone (ST (Addr.add ⟨q7, 0, none⟩ 0) (.bool false) (fun w => ST (Addr.add ⟨q7, 0, none⟩ 1) (.int .u8 0) (fun w => ST (Addr.add ⟨q7, 0, none⟩ 2) (.string (⟨#[]⟩ : ByteArray)) (fun w => LD Value.bool (Addr.add ⟨q7, 0, none⟩ 0) (fun b8 w => LD (Value.int .u8) (Addr.add ⟨q7, 0, none⟩ 1) (fun n9 w => LD Value.string (Addr.add ⟨q7, 0, none⟩ 2) (fun s10 w => k (.tuple #[.agg #[.bool b8, .int .u8 n9, .string s10], .int .i64 403]) w) w) w) w) w) w) w) (LD (Value.int .u8) (Addr.add ⟨q6, 0, none⟩ 1) (fun n11 w => brK (n11 == 105) (f15.J8 p1 n5 q6 q7 n11 (n11 == 105) k w) (brK (n11 == 109) (f15.J8 p1 n5 q6 q7 n11 (n11 == 109) k w) (brK (n11 == 110) (f15.J8 p1 n5 q6 q7 n11 (n11 == 110) k w) (brK (n11 == 115) (f15.J8 p1 n5 q6 q7 n11 (n11 == 115) k w) (f15.J8 p1 n5 q6 q7 n11 (n11 == 116) k w))))) w)) w) w
theorem f15.den (p1 : Option Addr) (b2 : Bool) (n3 : Int) (s4 : ByteArray) (n5 : Int) (k : Value → World → Prop) (w : World) : pc Tryz.prog none (.seq none .none (.seq none .none (.seq (some (f15.J1p k)) (.seq none .none (.block (.seq (some (f15.J2p k)) (.block (.seq (some (f15.J3p k)) (.block (.seq (some (f15.J4p k)) (.block (.seq (some (f15.J5p k)) (.block (.block (.seq (some (f15.J6p k)) (.block (.seq none (.seq (some (f15.J7p k)) (.seq (some (f15.J8p k)) .none .none) .none) .none)) .none))) .none)) .none)) .none)) .none))) .none))) f15.body (retQ Tryz.prog [.cell 6 24, .tmp 7] k) (fun _ => undef) 52 [51, 50, 49] [.pointer p1, .agg #[.bool b2, .int .u8 n3, .string s4], .int .i64 n5] [] w = f15.b p1 b2 n3 s4 n5 k w := by kernel_rfl
theorem f15.okc {k : Value → World → Prop} : okC Tryz.prog none (.seq none .none (.seq none .none (.seq (some (f15.J1p k)) (.seq none .none (.block (.seq (some (f15.J2p k)) (.block (.seq (some (f15.J3p k)) (.block (.seq (some (f15.J4p k)) (.block (.seq (some (f15.J5p k)) (.block (.block (.seq (some (f15.J6p k)) (.block (.seq none (.seq (some (f15.J7p k)) (.seq (some (f15.J8p k)) .none .none) .none) .none)) .none))) .none)) .none)) .none)) .none))) .none))) f15.body (retQ Tryz.prog [.cell 6 24, .tmp 7] k) :=
  Eq.mpr (by kernel_rfl : okC Tryz.prog none (.seq none .none (.seq none .none (.seq (some (f15.J1p k)) (.seq none .none (.block (.seq (some (f15.J2p k)) (.block (.seq (some (f15.J3p k)) (.block (.seq (some (f15.J4p k)) (.block (.seq (some (f15.J5p k)) (.block (.block (.seq (some (f15.J6p k)) (.block (.seq none (.seq (some (f15.J7p k)) (.seq (some (f15.J8p k)) .none .none) .none) .none)) .none))) .none)) .none)) .none)) .none))) .none))) f15.body (retQ Tryz.prog [.cell 6 24, .tmp 7] k) = (((True) ∧ (((True) ∧ (((((True) ∧ (((((((((((((((((True) ∧ OKJ Tryz.prog none (f15.J8p k) (codeAt f15.body [1, 1, 0, 1, 0, 0, 0, 0, 0, 0, 0, 0, 0, 0, 0, 0, 0, 0, 1]) (f15.Q1 k))) ∧ OKJ Tryz.prog none (f15.J7p k) (codeAt f15.body [1, 1, 0, 1, 0, 0, 0, 0, 0, 0, 0, 0, 0, 0, 0, 0, 0, 1]) (f15.Q3 k))) ∧ (True))) ∧ OKJ Tryz.prog none (f15.J6p k) (codeAt f15.body [1, 1, 0, 1, 0, 0, 0, 0, 0, 0, 0, 0, 0, 0, 1]) (f15.Q2 k))) ∧ OKJ Tryz.prog none (f15.J5p k) (codeAt f15.body [1, 1, 0, 1, 0, 0, 0, 0, 0, 0, 0, 1]) (f15.Q4 k))) ∧ OKJ Tryz.prog none (f15.J4p k) (codeAt f15.body [1, 1, 0, 1, 0, 0, 0, 0, 0, 1]) (f15.Q5 k))) ∧ OKJ Tryz.prog none (f15.J3p k) (codeAt f15.body [1, 1, 0, 1, 0, 0, 0, 1]) (f15.Q6 k))) ∧ OKJ Tryz.prog none (f15.J2p k) (codeAt f15.body [1, 1, 0, 1, 0, 1]) (f15.Q7 k))))) ∧ OKJ Tryz.prog none (f15.J1p k) (codeAt f15.body [1, 1, 1]) (f15.Q8 k)))))))) (⟨trivial, ⟨trivial, ⟨⟨trivial, ⟨⟨⟨⟨⟨⟨⟨⟨trivial, f15.J8_ok⟩, f15.J7_ok⟩, trivial⟩, f15.J6_ok⟩, f15.J5_ok⟩, f15.J4_ok⟩, f15.J3_ok⟩, f15.J2_ok⟩⟩, f15.J1_ok⟩⟩⟩)
theorem f15.call {p1 : Option Addr} {b2 : Bool} {n3 : Int} {s4 : ByteArray} {n5 : Int} {k : Value → World → Prop} {w : World} (h : f15.b p1 b2 n3 s4 n5 k w) : CALL Tryz.prog 15 #[.pointer p1, .agg #[.bool b2, .int .u8 n3, .string s4], .int .i64 n5] k w :=
  calls_of_pc Tryz.mixed Tryz.func15 (by kernel_rfl : Tryz.f15.body = some f15.body) (Tryz.call15 _ _) (by kernel_rfl : #[.pointer p1, .agg #[.bool b2, .int .u8 n3, .string s4], .int .i64 n5] ++ Array.replicate (Tryz.f15.ntmps - (#[.pointer p1, .agg #[.bool b2, .int .u8 n3, .string s4], .int .i64 n5] : Array Value).size) undef = (FR (fun _ => undef) 52 [51, 50, 49] [.pointer p1, .agg #[.bool b2, .int .u8 n3, .string s4], .int .i64 n5]).toArray) (by kernel_rfl : Tryz.f15.results.toList = [.cell 6 24, .tmp 7]) f15.okc ((f15.den p1 b2 n3 s4 n5 k w).symm ▸ h)

/-! rollcall/rollcalllaw19.awake -/
noncomputable def f7.body : Code := (Tryz.f7.body).getD .skip
def f7.Q1 (k : Value → World → Prop) : Exit → Act → World → Prop := (Exit.then (den Tryz.prog none (codeAt f7.body [1, 1, 1, 1, 1]) (retQ Tryz.prog [.tmp 0] k)) (retQ Tryz.prog [.tmp 0] k))
def f7.O3 (p25 : Option Addr) (b26 : Bool) (k : Value → World → Prop) (w : World) : Prop :=
  brK b26 (CALL Tryz.prog 12 #[.pointer p25, .bool false] (fun v27 w => ∃ l28 : Sl, v27 = slv l28 ∧ AL (.cells #[.string (⟨#[43, 107, 110, 116]⟩ : ByteArray), .string (⟨#[42]⟩ : ByteArray)] 9) (fun q29 w => CALL Tryz.prog 16 #[slv l28, slv ((some ⟨q29, 0, none⟩), 2, 2)] (fun v30 w => ∃ b31 : Bool, v30 = .bool b31 ∧ k (.bool b31) w) w) w) w) (k (.bool false) w)
def f7.O3p (k : Value → World → Prop) : Act → World → Prop := PJ 35 [33, 5] fun us ds w => un us fun v us => asP v fun p25 => un us fun v us => asB v fun b26 => nl us (dn ds (f7.O3 p25 b26 k w))
def f7.O2 (p18 : Option Addr) (b19 : Bool) (k : Value → World → Prop) (w : World) : Prop :=
  brK b19 (CALL Tryz.prog 12 #[.pointer p18, .bool true] (fun v20 w => ∃ l21 : Sl, v20 = slv l21 ∧ AL (.cells #[.string (⟨#[43, 107, 110, 116]⟩ : ByteArray), .string (⟨#[120]⟩ : ByteArray)] 9) (fun q22 w => CALL Tryz.prog 16 #[slv l21, slv ((some ⟨q22, 0, none⟩), 2, 2)] (fun v23 w => ∃ b24 : Bool, v23 = .bool b24 ∧ f7.O3 p18 b24 k w) w) w) w) (f7.O3 p18 false k w)
def f7.O2p (k : Value → World → Prop) : Act → World → Prop := PJ 35 [33, 11] fun us ds w => un us fun v us => asP v fun p18 => un us fun v us => asB v fun b19 => nl us (dn ds (f7.O2 p18 b19 k w))
def f7.O1 (p14 : Option Addr) (q15 : Nat) (b16 : Bool) (k : Value → World → Prop) (w : World) : Prop :=
  brK b16 (LD Value.string (Addr.add ⟨q15, 0, none⟩ 2) (fun s17 w => f7.O2 p14 (decide ((s17 : ByteArray) = (⟨#[120]⟩ : ByteArray))) k w) w) (f7.O2 p14 false k w)
def f7.O1p (k : Value → World → Prop) : Act → World → Prop := PJ 35 [33, 32, 16] fun us ds w => un us fun v us => asP v fun p14 => un us fun v us => asBox v fun q15 => un us fun v us => asB v fun b16 => nl us (dn ds (f7.O1 p14 q15 b16 k w))
theorem f7.O3_den (D : Nat → Value) (p25 : Option Addr) (b26 : Bool) (k : Value → World → Prop) (w : World) : (spK (FR D 35 [33, 5] [.pointer p25, .bool b26]) fun l => denOps Tryz.prog (opsAt (codeAt f7.body [1, 1, 1, 1, 0])) ((f7.Q1 k) .normal) (((opsAt (codeAt f7.body [1, 1, 1, 1, 0])).toList.drop 14).take 6) { tmps := l.toArray, defers := [] } w) = f7.O3 p25 b26 k w := by kernel_rfl
theorem f7.O3_ok {k : Value → World → Prop} : OKR Tryz.prog none (opsAt (codeAt f7.body [1, 1, 1, 1, 0])) (f7.O3p k) 14 (f7.Q1 k) := by
  intro a w h
  obtain ⟨D, us, ds, rfl, h0⟩ := PJ_out h
  obtain ⟨v, us, rfl, h1⟩ := un_out h0
  obtain ⟨p25, rfl, h2⟩ := asP_out h1
  obtain ⟨v, us, rfl, h3⟩ := un_out h2
  obtain ⟨b26, rfl, h4⟩ := asB_out h3
  obtain ⟨rfl, h5⟩ := nl_out h4
  obtain ⟨rfl, h6⟩ := dn_out h5
  rw [← f7.O3_den D p25 b26 k w] at h6
  exact okr_of (m := 6) (okr_end (by kernel_rfl)) h6
theorem f7.O2_den (D : Nat → Value) (p18 : Option Addr) (b19 : Bool) (k : Value → World → Prop) (w : World) : (spK (FR D 35 [33, 11] [.pointer p18, .bool b19]) fun l => denOps Tryz.prog (opsAt (codeAt f7.body [1, 1, 1, 1, 0])) (f7.O3p k) (((opsAt (codeAt f7.body [1, 1, 1, 1, 0])).toList.drop 8).take 6) { tmps := l.toArray, defers := [] } w) = f7.O2 p18 b19 k w := by kernel_rfl
theorem f7.O2_ok {k : Value → World → Prop} : OKR Tryz.prog none (opsAt (codeAt f7.body [1, 1, 1, 1, 0])) (f7.O2p k) 8 (f7.Q1 k) := by
  intro a w h
  obtain ⟨D, us, ds, rfl, h0⟩ := PJ_out h
  obtain ⟨v, us, rfl, h1⟩ := un_out h0
  obtain ⟨p18, rfl, h2⟩ := asP_out h1
  obtain ⟨v, us, rfl, h3⟩ := un_out h2
  obtain ⟨b19, rfl, h4⟩ := asB_out h3
  obtain ⟨rfl, h5⟩ := nl_out h4
  obtain ⟨rfl, h6⟩ := dn_out h5
  rw [← f7.O2_den D p18 b19 k w] at h6
  exact okr_of (m := 6) f7.O3_ok h6
theorem f7.O1_den (D : Nat → Value) (p14 : Option Addr) (q15 : Nat) (b16 : Bool) (k : Value → World → Prop) (w : World) : (spK (FR D 35 [33, 32, 16] [.pointer p14, .pointer (some ⟨q15, 0, none⟩), .bool b16]) fun l => denOps Tryz.prog (opsAt (codeAt f7.body [1, 1, 1, 1, 0])) (f7.O2p k) (((opsAt (codeAt f7.body [1, 1, 1, 1, 0])).toList.drop 3).take 5) { tmps := l.toArray, defers := [] } w) = f7.O1 p14 q15 b16 k w := by kernel_rfl
theorem f7.O1_ok {k : Value → World → Prop} : OKR Tryz.prog none (opsAt (codeAt f7.body [1, 1, 1, 1, 0])) (f7.O1p k) 3 (f7.Q1 k) := by
  intro a w h
  obtain ⟨D, us, ds, rfl, h0⟩ := PJ_out h
  obtain ⟨v, us, rfl, h1⟩ := un_out h0
  obtain ⟨p14, rfl, h2⟩ := asP_out h1
  obtain ⟨v, us, rfl, h3⟩ := un_out h2
  obtain ⟨q15, rfl, h4⟩ := asBox_out h3
  obtain ⟨v, us, rfl, h5⟩ := un_out h4
  obtain ⟨b16, rfl, h6⟩ := asB_out h5
  obtain ⟨rfl, h7⟩ := nl_out h6
  obtain ⟨rfl, h8⟩ := dn_out h7
  rw [← f7.O1_den D p14 q15 b16 k w] at h8
  exact okr_of (m := 5) f7.O2_ok h8
def f7.b (k : Value → World → Prop) (w : World) : Prop :=
  CALL Tryz.prog 9 #[.string (⟨#[35, 97]⟩ : ByteArray), .int .i64 5] (fun v1 w => ∃ p2 : Option Addr, v1 = .pointer p2 ∧ CALL Tryz.prog 12 #[.pointer p2, .bool true] (fun v3 w => ∃ l4 : Sl, v3 = slv l4 ∧ AL (.cells #[.string (⟨#[43, 110, 116]⟩ : ByteArray)] 9) (fun q5 w => CALL Tryz.prog 16 #[slv l4, slv ((some ⟨q5, 0, none⟩), 1, 1)] (fun v6 w => ∃ b7 : Bool, v6 = .bool b7 ∧ brK (!b7) (k (.bool false) w) (CALL Tryz.prog 15 #[.pointer p2, .agg #[.bool true, .int .u8 107, .string (⟨#[120]⟩ : ByteArray)], .int .i64 0] (fun v8 w => ∃ b9 : Bool, ∃ n10 : Int, ∃ s11 : ByteArray, ∃ n12 : Int, v8 = .tuple #[.agg #[.bool b9, .int .u8 n10, .string s11], .int .i64 n12] ∧ AL (.cells #[.bool false, .int .u8 0, .string (⟨#[]⟩ : ByteArray)] 24) (fun q13 w => ST (Addr.add ⟨q13, 0, none⟩ 0) (.bool b9) (fun w => ST (Addr.add ⟨q13, 0, none⟩ 1) (.int .u8 n10) (fun w => ST (Addr.add ⟨q13, 0, none⟩ 2) (.string s11) (fun w => f7.O1 p2 q13 (n12 == 0) k w) w) w) w) w) w)) w) w) w) w
theorem f7.den (k : Value → World → Prop) (w : World) : pc Tryz.prog none (.seq none .none (.seq none .none (.seq none .none (.seq none .none (.seq none (.reg 3 (f7.O1p k)) .none))))) f7.body (retQ Tryz.prog [.tmp 0] k) (fun _ => undef) 35 [] [] [] w = f7.b k w := by kernel_rfl
theorem f7.okc {k : Value → World → Prop} : okC Tryz.prog none (.seq none .none (.seq none .none (.seq none .none (.seq none .none (.seq none (.reg 3 (f7.O1p k)) .none))))) f7.body (retQ Tryz.prog [.tmp 0] k) :=
  Eq.mpr (by kernel_rfl : okC Tryz.prog none (.seq none .none (.seq none .none (.seq none .none (.seq none .none (.seq none (.reg 3 (f7.O1p k)) .none))))) f7.body (retQ Tryz.prog [.tmp 0] k) = (((True) ∧ (((True) ∧ (((True) ∧ (((True) ∧ (((OKR Tryz.prog none (opsAt (codeAt f7.body [1, 1, 1, 1, 0])) (f7.O1p k) 3 (f7.Q1 k)) ∧ (True)))))))))))) (⟨trivial, ⟨trivial, ⟨trivial, ⟨trivial, ⟨f7.O1_ok, trivial⟩⟩⟩⟩⟩)
theorem f7.call {k : Value → World → Prop} {w : World} (h : f7.b k w) : CALL Tryz.prog 7 #[] k w :=
  calls_of_pc Tryz.mixed Tryz.func7 (by kernel_rfl : Tryz.f7.body = some f7.body) (Tryz.call7 _ _) (by kernel_rfl : #[] ++ Array.replicate (Tryz.f7.ntmps - (#[] : Array Value).size) undef = (FR (fun _ => undef) 35 [] []).toArray) (by kernel_rfl : Tryz.f7.results.toList = [.tmp 0]) f7.okc ((f7.den k w).symm ▸ h)

/-! rollcall/rollcalllaw19.Great -/
noncomputable def f8.body : Code := (Tryz.f8.body).getD .skip
def f8.J1 (k : Value → World → Prop) (w : World) : Prop :=
  k (.bool false) w
def f8.J1p (k : Value → World → Prop) : Act → World → Prop := PJ 30 [] fun us ds w => nl us (dn ds (f8.J1 k w))
def f8.Q1 (k : Value → World → Prop) : Exit → Act → World → Prop := (Exit.inBlock 0 (Exit.then (f8.J1p k) (retQ Tryz.prog [.tmp 2] k)))
def f8.L2k (Kn1 : Sl → Int → World → Prop) : Act → World → Prop := PJ 30 [29, 26] fun us ds w => un us fun v us => asS v fun l2 => un us fun v us => asI .i64 v fun n3 => nl us (dn ds (Kn1 l2 n3 w))
def f8.Q2 (k : Value → World → Prop) : Exit → Act → World → Prop := (retQ Tryz.prog [.tmp 2] k)
def f8.L2 (l2 : Sl) (n3 : Int) (Kn1 : Sl → Int → World → Prop) (k : Value → World → Prop) (w : World) : Prop :=
  brK (decide (n3 < ((l2.2.1 : Nat) : Int))) (IX l2 n3 7 (fun a4 => LD Value.string (Addr.add a4 3) (fun s5 w => brK (decide ((250 : Int) < ((s5.size : Nat) : Int))) (k (.bool true) w) (IX l2 n3 7 (fun a6 => LD Value.string (Addr.add (Addr.add a6 4) 2) (fun s7 w => brK (decide ((250 : Int) < ((s7.size : Nat) : Int))) (k (.bool true) w) (Kn1 l2 (IntKind.wrap .i64 (n3 + 1)) w)) w))) w)) (f8.J1 k w)
def f8.L2lp (l2 : Sl) (n3 : Int) (k : Value → World → Prop) (w : World) : Prop := ∀ D : Nat → Value, (Code.loop (codeAt f8.body [1, 1, 0, 1, 0, 0])).wpIn (Wd none) 0 Tryz.prog (f8.Q1 k) (fr D 30 [29, 26] [slv l2, .int .i64 n3] []) w
def f8.L2p (k : Value → World → Prop) : Act → World → Prop := PJ 30 [29, 26] fun us ds w => un us fun v us => asS v fun l2 => un us fun v us => asI .i64 v fun n3 => nl us (dn ds (f8.L2lp l2 n3 k w))
def f8.L2K (l2 : Sl) (I : Int → World → Prop) (μ : Int → World → Nat) (m : Nat) (l2' : Sl) (n3' : Int) (w : World) : Prop := (l2' = l2) ∧ I n3' w ∧ μ n3' w < m
theorem f8.J1_den (D : Nat → Value) (k : Value → World → Prop) (w : World) : pc Tryz.prog none .none (codeAt f8.body [1, 1, 1]) (f8.Q2 k) D 30 [] [] [] w = f8.J1 k w := by kernel_rfl
theorem f8.J1_okc {k : Value → World → Prop} : okC Tryz.prog none .none (codeAt f8.body [1, 1, 1]) (f8.Q2 k) :=
  Eq.mpr (by kernel_rfl : okC Tryz.prog none .none (codeAt f8.body [1, 1, 1]) (f8.Q2 k) = (True)) (trivial)
theorem f8.J1_ok {k : Value → World → Prop} : OKJ Tryz.prog none (f8.J1p k) (codeAt f8.body [1, 1, 1]) (f8.Q2 k) := by
  intro a w h
  obtain ⟨D, us, ds, rfl, h0⟩ := PJ_out h
  obtain ⟨rfl, h1⟩ := nl_out h0
  obtain ⟨rfl, h2⟩ := dn_out h1
  rw [← f8.J1_den D k w] at h2
  exact pc_wp Tryz.mixed f8.J1_okc h2
theorem f8.L2_next {l2 : Sl} {I : Int → World → Prop} {μ : Int → World → Nat} {m : Nat} {n3 : Int} {w : World} (hI : I n3 w) (hlt : μ n3 w < m) : f8.L2K l2 I μ m l2 n3 w := ⟨rfl, hI, hlt⟩
theorem f8.L2_den (D : Nat → Value) (l2 : Sl) (n3 : Int) (Kn1 : Sl → Int → World → Prop) (k : Value → World → Prop) (w : World) : pc Tryz.prog none .none (codeAt f8.body [1, 1, 0, 1, 0, 0]) (Exit.then (f8.L2k Kn1) (f8.Q1 k)) D 30 [29, 26] [slv l2, .int .i64 n3] [] w = f8.L2 l2 n3 Kn1 k w := by kernel_rfl
theorem f8.L2_okc {Kn1 : Sl → Int → World → Prop} {k : Value → World → Prop} : okC Tryz.prog none .none (codeAt f8.body [1, 1, 0, 1, 0, 0]) (Exit.then (f8.L2k Kn1) (f8.Q1 k)) :=
  Eq.mpr (by kernel_rfl : okC Tryz.prog none .none (codeAt f8.body [1, 1, 0, 1, 0, 0]) (Exit.then (f8.L2k Kn1) (f8.Q1 k)) = (True)) (trivial)
theorem f8.L2_ok {k : Value → World → Prop} : OKJ Tryz.prog none (f8.L2p k) (codeAt f8.body [1, 1, 0, 1, 0]) (f8.Q1 k) := by
  intro a w h
  obtain ⟨D, us, ds, rfl, h0⟩ := PJ_out h
  obtain ⟨v, us, rfl, h1⟩ := un_out h0
  obtain ⟨l2, rfl, h2⟩ := asS_out h1
  obtain ⟨v, us, rfl, h3⟩ := un_out h2
  obtain ⟨n3, rfl, h4⟩ := asI_out h3
  obtain ⟨rfl, h5⟩ := nl_out h4
  obtain ⟨rfl, h6⟩ := dn_out h5
  rw [show (codeAt f8.body [1, 1, 0, 1, 0]) = Code.loop (codeAt f8.body [1, 1, 0, 1, 0, 0]) by kernel_rfl]
  exact h6 D
theorem f8.L2_rule {l2 : Sl} {k : Value → World → Prop} (I : Int → World → Prop) (μ : Int → World → Nat) {n3 : Int} {w : World} (h0 : I n3 w)
    (hr : ∀ (n3 : Int) (w : World), I n3 w → f8.L2 l2 n3 (f8.L2K l2 I μ (μ n3 w)) k w) : f8.L2lp l2 n3 k w := by
  intro D0
  refine loop_ind (P := Tryz.prog) (fun m a w => ∃ n3 : Int, ∃ D : Nat → Value, a = fr D 30 [29, 26] [slv l2, .int .i64 n3] [] ∧ I n3 w ∧ μ n3 w = m) ?_ (μ n3 w) ⟨_, D0, rfl, h0, rfl⟩
  rintro m a w ⟨n3, D, rfl, hI, rfl⟩
  have h := hr n3 w hI
  rw [← f8.L2_den D l2 n3 (f8.L2K l2 I μ (μ n3 w)) k w] at h
  refine then_mono (pc_wp Tryz.mixed f8.L2_okc h) ?_
  clear h
  intro a w h
  obtain ⟨D, us, ds, rfl, h0⟩ := PJ_out h
  obtain ⟨v, us, rfl, h1⟩ := un_out h0
  obtain ⟨l2', rfl, h2⟩ := asS_out h1
  obtain ⟨v, us, rfl, h3⟩ := un_out h2
  obtain ⟨n3', rfl, h4⟩ := asI_out h3
  obtain ⟨rfl, h5⟩ := nl_out h4
  obtain ⟨rfl, h6⟩ := dn_out h5
  obtain ⟨rfl, hI, hlt⟩ := h6
  exact ⟨_, hlt, _, D, rfl, hI, rfl⟩
def f8.b (l1 : Sl) (k : Value → World → Prop) (w : World) : Prop :=
  brK (decide ((40 : Int) < ((l1.2.1 : Nat) : Int))) (k (.bool true) w) (f8.L2lp l1 0 k w)
theorem f8.den (l1 : Sl) (k : Value → World → Prop) (w : World) : pc Tryz.prog none (.seq none .none (.seq none .none (.seq (some (f8.J1p k)) (.seq none .none (.block (.at (f8.L2p k)))) .none))) f8.body (retQ Tryz.prog [.tmp 2] k) (fun _ => undef) 30 [29] [slv l1] [] w = f8.b l1 k w := by kernel_rfl
theorem f8.okc {k : Value → World → Prop} : okC Tryz.prog none (.seq none .none (.seq none .none (.seq (some (f8.J1p k)) (.seq none .none (.block (.at (f8.L2p k)))) .none))) f8.body (retQ Tryz.prog [.tmp 2] k) :=
  Eq.mpr (by kernel_rfl : okC Tryz.prog none (.seq none .none (.seq none .none (.seq (some (f8.J1p k)) (.seq none .none (.block (.at (f8.L2p k)))) .none))) f8.body (retQ Tryz.prog [.tmp 2] k) = (((True) ∧ (((True) ∧ (((((True) ∧ (OKJ Tryz.prog none (f8.L2p k) (codeAt f8.body [1, 1, 0, 1, 0]) (f8.Q1 k)))) ∧ OKJ Tryz.prog none (f8.J1p k) (codeAt f8.body [1, 1, 1]) (f8.Q2 k)))))))) (⟨trivial, ⟨trivial, ⟨⟨trivial, f8.L2_ok⟩, f8.J1_ok⟩⟩⟩)
theorem f8.call {l1 : Sl} {k : Value → World → Prop} {w : World} (h : f8.b l1 k w) : CALL Tryz.prog 8 #[slv l1] k w :=
  calls_of_pc Tryz.mixed Tryz.func8 (by kernel_rfl : Tryz.f8.body = some f8.body) (Tryz.call8 _ _) (by kernel_rfl : #[slv l1] ++ Array.replicate (Tryz.f8.ntmps - (#[slv l1] : Array Value).size) undef = (FR (fun _ => undef) 30 [29] [slv l1]).toArray) (by kernel_rfl : Tryz.f8.results.toList = [.tmp 2]) f8.okc ((f8.den l1 k w).symm ▸ h)

/-! rollcall/rollcalllaw19.act -/
noncomputable def f11.body : Code := (Tryz.f11.body).getD .skip
def f11.Q1 (k : Value → World → Prop) : Exit → Act → World → Prop := (retQ Tryz.prog [.tmp 6] k)
def f11.J1 (k : Value → World → Prop) (w : World) : Prop :=
  k (.bool true) w
def f11.J1p (k : Value → World → Prop) : Act → World → Prop := PJ 95 [] fun us ds w => nl us (dn ds (f11.J1 k w))
theorem f11.J1_den (D : Nat → Value) (k : Value → World → Prop) (w : World) : pc Tryz.prog none .none (codeAt f11.body [1, 1]) (f11.Q1 k) D 95 [] [] [] w = f11.J1 k w := by kernel_rfl
theorem f11.J1_okc {k : Value → World → Prop} : okC Tryz.prog none .none (codeAt f11.body [1, 1]) (f11.Q1 k) :=
  Eq.mpr (by kernel_rfl : okC Tryz.prog none .none (codeAt f11.body [1, 1]) (f11.Q1 k) = (True)) (trivial)
theorem f11.J1_ok {k : Value → World → Prop} : OKJ Tryz.prog none (f11.J1p k) (codeAt f11.body [1, 1]) (f11.Q1 k) := by
  intro a w h
  obtain ⟨D, us, ds, rfl, h0⟩ := PJ_out h
  obtain ⟨rfl, h1⟩ := nl_out h0
  obtain ⟨rfl, h2⟩ := dn_out h1
  rw [← f11.J1_den D k w] at h2
  exact pc_wp Tryz.mixed f11.J1_okc h2
def f11.b (p1 : Option Addr) (p2 : Option Addr) (n3 : Int) (n4 : Int) (b5 : Bool) (s6 : ByteArray) (b7 : Bool) (n8 : Int) (s9 : ByteArray) (k : Value → World → Prop) (w : World) : Prop :=
  AL (.cells #[.int .i64 n3, .int .i64 n4, .bool b5, .string s6, .bool b7, .int .u8 n8, .string s9] 33) (fun q10 w => LD (Value.int .i64) (Addr.add ⟨q10, 0, none⟩ 0) (fun n11 w => brK (n11 == 1) (DRC (fun C w => STL C (Value.int .i64) (Addr.add ⟨q10, 0, none⟩ 1) (fun n12 => STL C (Value.int .i64) (Addr.add ⟨q10, 0, none⟩ 1) (fun n13 => CALL Tryz.prog 30 #[.pointer p1, .int .i64 n12] (fun v14 w => ∃ b15 : Bool, v14 = .bool b15 ∧ C w ∧ CALL Tryz.prog 33 #[.pointer p2, .int .i64 n13] (fun v16 w => ∃ b17 : Bool, v16 = .bool b17 ∧ k (.bool (b15 == b17)) w) w) w))) w) (brK (n11 == 2) (LD Value.string (Addr.add ⟨q10, 0, none⟩ 3) (fun s18 w => CALL Tryz.prog 28 #[.pointer p1, .string s18] (fun v19 w => v19 = .tuple #[] ∧ LD Value.string (Addr.add ⟨q10, 0, none⟩ 3) (fun s20 w => CALL Tryz.prog 34 #[.string s20] (fun v21 w => ∃ s22 : ByteArray, v21 = .string s22 ∧ NN p2 (fun a23 => ST (Addr.add (Addr.add a23 3) 0) (.string s22) (fun w => f11.J1 k w) w)) w) w) w) w) (brK (n11 == 3) (LD (Value.int .i64) (Addr.add ⟨q10, 0, none⟩ 1) (fun n24 w => CALL Tryz.prog 29 #[.pointer p1, .int .i64 n24] (fun v25 w => v25 = .tuple #[] ∧ DRC (fun C w => NN p2 (fun a26 => STL C slv (Addr.add a26 8) (fun l27 => STL C (Value.int .i64) (Addr.add ⟨q10, 0, none⟩ 1) (fun n28 => (AL (.cells #[] 3) (fun q29 w => C w ∧ (APP 3 1 8 #[.int .i64 0] ((some ⟨q29, 0, none⟩), 0, 0) l27.2.1 (fun w => cellsOfS w l27 (l27.2.1 * 1)) (fun l30 w => C w ∧ AL (.cells #[.int .i64 n28] 3) (fun q31 w => C w ∧ APP 3 1 8 #[.int .i64 0] l30 1 (fun w => cellsOfS w ((some ⟨q31, 0, none⟩), 1, 1) (1 * 1)) (fun l32 w => NN p2 (fun a33 => ST (Addr.add (Addr.add a33 8) 0) (slv l32) (fun w => f11.J1 k w) w)) w) w) w) ∧ (AL (.cells #[.int .i64 n28] 3) (fun q34 w => C w ∧ APP 3 1 8 #[.int .i64 0] ((some ⟨q29, 0, none⟩), 0, 0) l27.2.1 (fun w => cellsOfS w l27 (l27.2.1 * 1)) (fun l35 w => C w ∧ APP 3 1 8 #[.int .i64 0] l35 1 (fun w => cellsOfS w ((some ⟨q34, 0, none⟩), 1, 1) (1 * 1)) (fun l36 w => NN p2 (fun a37 => ST (Addr.add (Addr.add a37 8) 0) (slv l36) (fun w => f11.J1 k w) w)) w) w) w)) w) ∧ (AL (.cells #[.int .i64 n28] 3) (fun q38 w => C w ∧ AL (.cells #[] 3) (fun q39 w => C w ∧ APP 3 1 8 #[.int .i64 0] ((some ⟨q39, 0, none⟩), 0, 0) l27.2.1 (fun w => cellsOfS w l27 (l27.2.1 * 1)) (fun l40 w => C w ∧ APP 3 1 8 #[.int .i64 0] l40 1 (fun w => cellsOfS w ((some ⟨q38, 0, none⟩), 1, 1) (1 * 1)) (fun l41 w => NN p2 (fun a42 => ST (Addr.add (Addr.add a42 8) 0) (slv l41) (fun w => f11.J1 k w) w)) w) w) w) w))))) w) w) w) (brK (n11 == 4) (LD Value.bool (Addr.add (Addr.add ⟨q10, 0, none⟩ 4) 0) (fun b43 w => LD (Value.int .u8) (Addr.add (Addr.add ⟨q10, 0, none⟩ 4) 1) (fun n44 w => LD Value.string (Addr.add (Addr.add ⟨q10, 0, none⟩ 4) 2) (fun s45 w => LD (Value.int .i64) (Addr.add ⟨q10, 0, none⟩ 1) (fun n46 w => CALL Tryz.prog 15 #[.pointer p1, .agg #[.bool b43, .int .u8 n44, .string s45], .int .i64 n46] (fun v47 w => ∃ b48 : Bool, ∃ n49 : Int, ∃ s50 : ByteArray, ∃ n51 : Int, v47 = .tuple #[.agg #[.bool b48, .int .u8 n49, .string s50], .int .i64 n51] ∧ AL (.cells #[.bool false, .int .u8 0, .string (⟨#[]⟩ : ByteArray)] 24) (fun q52 w => ST (Addr.add ⟨q52, 0, none⟩ 0) (.bool b48) (fun w => ST (Addr.add ⟨q52, 0, none⟩ 1) (.int .u8 n49) (fun w => ST (Addr.add ⟨q52, 0, none⟩ 2) (.string s50) (fun w => LD Value.bool (Addr.add (Addr.add ⟨q10, 0, none⟩ 4) 0) (fun b53 w => LD (Value.int .u8) (Addr.add (Addr.add ⟨q10, 0, none⟩ 4) 1) (fun n54 w => LD Value.string (Addr.add (Addr.add ⟨q10, 0, none⟩ 4) 2) (fun s55 w => LD (Value.int .i64) (Addr.add ⟨q10, 0, none⟩ 1) (fun n56 w => CALL Tryz.prog 35 #[.pointer p2, .agg #[.bool b53, .int .u8 n54, .string s55], .int .i64 n56] (fun v57 w => ∃ b58 : Bool, ∃ n59 : Int, ∃ s60 : ByteArray, ∃ n61 : Int, v57 = .tuple #[.agg #[.bool b58, .int .u8 n59, .string s60], .int .i64 n61] ∧ AL (.cells #[.bool false, .int .u8 0, .string (⟨#[]⟩ : ByteArray)] 24) (fun q62 w => ST (Addr.add ⟨q62, 0, none⟩ 0) (.bool b58) (fun w => ST (Addr.add ⟨q62, 0, none⟩ 1) (.int .u8 n59) (fun w => ST (Addr.add ⟨q62, 0, none⟩ 2) (.string s60) (fun w => LD Value.bool (Addr.add ⟨q52, 0, none⟩ 0) (fun b63 w => LD (Value.int .u8) (Addr.add ⟨q52, 0, none⟩ 1) (fun n64 w => LD Value.string (Addr.add ⟨q52, 0, none⟩ 2) (fun s65 w => LD Value.bool (Addr.add ⟨q62, 0, none⟩ 0) (fun b66 w => LD (Value.int .u8) (Addr.add ⟨q62, 0, none⟩ 1) (fun n67 w => LD Value.string (Addr.add ⟨q62, 0, none⟩ 2) (fun s68 w => brK ((b63 == b66) && (((n64 : Int) == n67) && (decide ((s65 : ByteArray) = s68) && true))) (k (.bool (n51 == n61)) w) (k (.bool false) w)) w) w) w) w) w) w) w) w) w) w) w) w) w) w) w) w) w) w) w) w) w) w) w) w) (LD (Value.int .i64) (Addr.add ⟨q10, 0, none⟩ 1) (fun n69 w => LD Value.bool (Addr.add ⟨q10, 0, none⟩ 2) (fun b70 w => CALL Tryz.prog 27 #[.pointer p1, .int .i64 n69, .bool b70] (fun v71 w => v71 = .tuple #[] ∧ LD (Value.int .i64) (Addr.add ⟨q10, 0, none⟩ 1) (fun n72 w => LD Value.bool (Addr.add ⟨q10, 0, none⟩ 2) (fun b73 w => CALL Tryz.prog 36 #[.pointer p2, .int .i64 n72, .bool b73] (fun v74 w => v74 = .tuple #[] ∧ f11.J1 k w) w) w) w) w) w) w))))) w) w
theorem f11.den (p1 : Option Addr) (p2 : Option Addr) (n3 : Int) (n4 : Int) (b5 : Bool) (s6 : ByteArray) (b7 : Bool) (n8 : Int) (s9 : ByteArray) (k : Value → World → Prop) (w : World) : pc Tryz.prog none (.seq none .none (.seq (some (f11.J1p k)) .none .none)) f11.body (retQ Tryz.prog [.tmp 6] k) (fun _ => undef) 95 [94, 93, 92] [.pointer p1, .pointer p2, .agg #[.int .i64 n3, .int .i64 n4, .bool b5, .string s6, .bool b7, .int .u8 n8, .string s9]] [] w = f11.b p1 p2 n3 n4 b5 s6 b7 n8 s9 k w := by kernel_rfl
theorem f11.okc {k : Value → World → Prop} : okC Tryz.prog none (.seq none .none (.seq (some (f11.J1p k)) .none .none)) f11.body (retQ Tryz.prog [.tmp 6] k) :=
  Eq.mpr (by kernel_rfl : okC Tryz.prog none (.seq none .none (.seq (some (f11.J1p k)) .none .none)) f11.body (retQ Tryz.prog [.tmp 6] k) = (((True) ∧ (((True) ∧ OKJ Tryz.prog none (f11.J1p k) (codeAt f11.body [1, 1]) (f11.Q1 k)))))) (⟨trivial, ⟨trivial, f11.J1_ok⟩⟩)
theorem f11.call {p1 : Option Addr} {p2 : Option Addr} {n3 : Int} {n4 : Int} {b5 : Bool} {s6 : ByteArray} {b7 : Bool} {n8 : Int} {s9 : ByteArray} {k : Value → World → Prop} {w : World} (h : f11.b p1 p2 n3 n4 b5 s6 b7 n8 s9 k w) : CALL Tryz.prog 11 #[.pointer p1, .pointer p2, .agg #[.int .i64 n3, .int .i64 n4, .bool b5, .string s6, .bool b7, .int .u8 n8, .string s9]] k w :=
  calls_of_pc Tryz.mixed Tryz.func11 (by kernel_rfl : Tryz.f11.body = some f11.body) (Tryz.call11 _ _) (by kernel_rfl : #[.pointer p1, .pointer p2, .agg #[.int .i64 n3, .int .i64 n4, .bool b5, .string s6, .bool b7, .int .u8 n8, .string s9]] ++ Array.replicate (Tryz.f11.ntmps - (#[.pointer p1, .pointer p2, .agg #[.int .i64 n3, .int .i64 n4, .bool b5, .string s6, .bool b7, .int .u8 n8, .string s9]] : Array Value).size) undef = (FR (fun _ => undef) 95 [94, 93, 92] [.pointer p1, .pointer p2, .agg #[.int .i64 n3, .int .i64 n4, .bool b5, .string s6, .bool b7, .int .u8 n8, .string s9]]).toArray) (by kernel_rfl : Tryz.f11.results.toList = [.tmp 6]) f11.okc ((f11.den p1 p2 n3 n4 b5 s6 b7 n8 s9 k w).symm ▸ h)

/-! rollcall/rollcalllaw19.bans -/
noncomputable def f13.body : Code := (Tryz.f13.body).getD .skip
def f13.J1 (q18 : Nat) (q19 : Nat) (q20 : Nat) (k : Value → World → Prop) (ds : List Deferred) (w : World) : Prop :=
  LD slv ⟨q20, 0, none⟩ (fun l21 w => ST (Addr.add ⟨q18, 0, none⟩ 0) (slv l21) (fun w => ST (Addr.add ⟨q19, 0, none⟩ 0) (.bool true) (fun w => closeD (fun w => LD slv ⟨q18, 0, none⟩ (fun l22 w => LD Value.bool ⟨q19, 0, none⟩ (fun b23 w => k (.tuple #[slv l22, .bool b23]) w) w) w) ds w) w) w) w
def f13.J1p (k : Value → World → Prop) : Act → World → Prop := PJ 21 [18, 17, 16] fun us ds w => un us fun v us => asBox v fun q18 => un us fun v us => asBox v fun q19 => un us fun v us => asBox v fun q20 => nl us (f13.J1 q18 q19 q20 k ds w)
def f13.Q1 (k : Value → World → Prop) : Exit → Act → World → Prop := (Exit.inBlock 0 (Exit.then (f13.J1p k) (retQ Tryz.prog [.cell 2 34, .cell 3 4] k)))
def f13.R2rf (q10 : Nat) (q11 : Nat) (q12 : Nat) (v13 : Value) (k : Value → World → Prop) (ds : List Deferred) (w : World) : Prop := ∀ D : Nat → Value, (Code.rangeFunc (.tmp 11) #[12] (codeAt f13.body [1, 1, 1, 1, 0, 1, 0, 0]) (codeAt f13.body [1, 1, 1, 1, 0, 1, 0, 1])).wpIn (Wd none) 0 Tryz.prog (f13.Q1 k) (fr D 21 [18, 17, 16, 9] [.pointer (some ⟨q10, 0, none⟩), .pointer (some ⟨q11, 0, none⟩), .pointer (some ⟨q12, 0, none⟩), v13] ds) w
def f13.R2p (k : Value → World → Prop) : Act → World → Prop := PJ 21 [18, 17, 16, 9] fun us ds w => un us fun v us => asBox v fun q10 => un us fun v us => asBox v fun q11 => un us fun v us => asBox v fun q12 => un us fun v13 us => nl us (f13.R2rf q10 q11 q12 v13 k ds w)
def f13.Q2 (k : Value → World → Prop) : Exit → Act → World → Prop := (retQ Tryz.prog [.cell 2 34, .cell 3 4] k)
def f13.R2A (q14 : Nat) (q15 : Nat) (q16 : Nat) (v17 : Value) (k : Value → World → Prop) (ds : List Deferred) (w : World) : Prop :=
  f13.J1 q14 q15 q16 k ds w
def f13.R2Aret (q24 : Nat) (q25 : Nat) (q26 : Nat) (v27 : Value) (k : Value → World → Prop) (ds : List Deferred) (w : World) : Prop :=
  closeD (fun w => LD slv ⟨q24, 0, none⟩ (fun l28 w => LD Value.bool ⟨q25, 0, none⟩ (fun b29 w => k (.tuple #[slv l28, .bool b29]) w) w) w) ds w
def f13.R2b (q35 : Nat) (q36 : Nat) (q37 : Nat) (s38 : ByteArray) (r : Option Nat) (q : Exit → World → Prop) (w : World) : Prop :=
  LD slv ⟨q37, 0, none⟩ (fun l39 w => brK (decide ((100 : Int) < ((l39.2.1 : Nat) : Int))) (ST (Addr.add ⟨q35, 0, none⟩ 0) (slv (none, 0, 0)) (fun w => ST (Addr.add ⟨q36, 0, none⟩ 0) (.bool false) (fun w => q .ret w) w) w) (LD slv ⟨q37, 0, none⟩ (fun l40 w => AL (.cells #[.string s38] 9) (fun q41 w => APP 9 1 16 #[.string (⟨#[]⟩ : ByteArray)] l40 1 (fun w => cellsOfS w ((some ⟨q41, 0, none⟩), 1, 1) (1 * 1)) (fun l42 w => ST (Addr.add ⟨q37, 0, none⟩ 0) (slv l42) (fun w => q .normal w) w) w) w) w)) w
def f13.R2bp (r : Option Nat) (q : Exit → World → Prop) : Act → World → Prop := PJ 21 [18, 17, 16, 14] fun us ds w => un us fun v us => asBox v fun q35 => un us fun v us => asBox v fun q36 => un us fun v us => asBox v fun q37 => un us fun v us => asStr v fun s38 => nl us (dn ds (f13.R2b q35 q36 q37 s38 r q w))
def f13.R2 (q30 : Nat) (q31 : Nat) (q32 : Nat) (s34 : ByteArray) (r : Option Nat) (G : (World → Prop) → World → Prop) (q : Exit → World → Prop) (w : World) : Prop :=
  G (fun w => f13.R2b q30 q31 q32 s34 r q w) w
def f13.R2E (q10 : Nat) (q11 : Nat) (q12 : Nat) (v13 : Value) (k : Value → World → Prop) (ds : List Deferred) (rec : LoopState → Option Code → Loop) (L : Nat) (D : Nat) (w : World) : Prop :=
  (∃ l, SatL w (own Blk L (.loop (rec .ready none)) :: l) ∧ ∀ w, SatL w (own Blk L (.loop (rec .exhausted none)) :: l) → f13.R2A q10 q11 q12 v13 k ({ target := .collected D, args := #[] } :: ds) w) ∨ (∃ l, SatL w (own Blk L (.loop (rec .done (some .ret))) :: l) ∧ ∀ w, SatL w (own Blk L (.loop (rec .exhausted (some .ret))) :: l) → f13.R2Aret q10 q11 q12 v13 k ({ target := .collected D, args := #[] } :: ds) w)
theorem f13.R2_ok {k : Value → World → Prop} : OKJ Tryz.prog none (f13.R2p k) (codeAt f13.body [1, 1, 1, 1, 0, 1, 0]) (f13.Q1 k) := by
  intro a w h
  obtain ⟨D, us, ds, rfl, h0⟩ := PJ_out h
  obtain ⟨v, us, rfl, h1⟩ := un_out h0
  obtain ⟨q10, rfl, h2⟩ := asBox_out h1
  obtain ⟨v, us, rfl, h3⟩ := un_out h2
  obtain ⟨q11, rfl, h4⟩ := asBox_out h3
  obtain ⟨v, us, rfl, h5⟩ := un_out h4
  obtain ⟨q12, rfl, h6⟩ := asBox_out h5
  obtain ⟨v13, us, rfl, h7⟩ := un_out h6
  obtain ⟨rfl, h8⟩ := nl_out h7
  rw [show (codeAt f13.body [1, 1, 1, 1, 0, 1, 0]) = (Code.rangeFunc (.tmp 11) #[12] (codeAt f13.body [1, 1, 1, 1, 0, 1, 0, 0]) (codeAt f13.body [1, 1, 1, 1, 0, 1, 0, 1])) by kernel_rfl]
  exact h8 D
theorem f13.J1_den (D : Nat → Value) (q18 : Nat) (q19 : Nat) (q20 : Nat) (k : Value → World → Prop) (ds : List Deferred) (w : World) : pc Tryz.prog none .none (codeAt f13.body [1, 1, 1, 1, 1]) (f13.Q2 k) D 21 [18, 17, 16] [.pointer (some ⟨q18, 0, none⟩), .pointer (some ⟨q19, 0, none⟩), .pointer (some ⟨q20, 0, none⟩)] ds w = f13.J1 q18 q19 q20 k ds w := by kernel_rfl
theorem f13.J1_okc {k : Value → World → Prop} : okC Tryz.prog none .none (codeAt f13.body [1, 1, 1, 1, 1]) (f13.Q2 k) :=
  Eq.mpr (by kernel_rfl : okC Tryz.prog none .none (codeAt f13.body [1, 1, 1, 1, 1]) (f13.Q2 k) = (True)) (trivial)
theorem f13.J1_ok {k : Value → World → Prop} : OKJ Tryz.prog none (f13.J1p k) (codeAt f13.body [1, 1, 1, 1, 1]) (f13.Q2 k) := by
  intro a w h
  obtain ⟨D, us, ds, rfl, h0⟩ := PJ_out h
  obtain ⟨v, us, rfl, h1⟩ := un_out h0
  obtain ⟨q18, rfl, h2⟩ := asBox_out h1
  obtain ⟨v, us, rfl, h3⟩ := un_out h2
  obtain ⟨q19, rfl, h4⟩ := asBox_out h3
  obtain ⟨v, us, rfl, h5⟩ := un_out h4
  obtain ⟨q20, rfl, h6⟩ := asBox_out h5
  obtain ⟨rfl, h7⟩ := nl_out h6
  rw [← f13.J1_den D q18 q19 q20 k ds w] at h7
  exact pc_wp Tryz.mixed f13.J1_okc h7
theorem f13.R2A_den (D : Nat → Value) (q14 : Nat) (q15 : Nat) (q16 : Nat) (v17 : Value) (k : Value → World → Prop) (ds : List Deferred) (w : World) : spK (FR D 21 [18, 17, 16, 9] [.pointer (some ⟨q14, 0, none⟩), .pointer (some ⟨q15, 0, none⟩), .pointer (some ⟨q16, 0, none⟩), v17]) (fun l => (f13.Q1 k) .normal { tmps := l.toArray, defers := ds } w) = f13.R2A q14 q15 q16 v17 k ds w := by kernel_rfl
theorem f13.R2Aret_den (D : Nat → Value) (q24 : Nat) (q25 : Nat) (q26 : Nat) (v27 : Value) (k : Value → World → Prop) (ds : List Deferred) (w : World) : spK (FR D 21 [18, 17, 16, 9] [.pointer (some ⟨q24, 0, none⟩), .pointer (some ⟨q25, 0, none⟩), .pointer (some ⟨q26, 0, none⟩), v27]) (fun l => (f13.Q1 k) .ret { tmps := l.toArray, defers := ds } w) = f13.R2Aret q24 q25 q26 v27 k ds w := by kernel_rfl
theorem f13.R2b_den (D : Nat → Value) (q35 : Nat) (q36 : Nat) (q37 : Nat) (s38 : ByteArray) (r : Option Nat) (q : Exit → World → Prop) (w : World) : pc Tryz.prog r .none (codeAt f13.body [1, 1, 1, 1, 0, 1, 0, 1]) (fun e _ w => q e w) D 21 [18, 17, 16, 14] [.pointer (some ⟨q35, 0, none⟩), .pointer (some ⟨q36, 0, none⟩), .pointer (some ⟨q37, 0, none⟩), .string s38] [] w = f13.R2b q35 q36 q37 s38 r q w := by kernel_rfl
theorem f13.R2b_okc {r : Option Nat} {q : Exit → World → Prop} : okC Tryz.prog r .none (codeAt f13.body [1, 1, 1, 1, 0, 1, 0, 1]) (fun e _ w => q e w) :=
  Eq.mpr (by kernel_rfl : okC Tryz.prog r .none (codeAt f13.body [1, 1, 1, 1, 0, 1, 0, 1]) (fun e _ w => q e w) = (True)) (trivial)
theorem f13.R2b_ok {r : Option Nat} {q : Exit → World → Prop} : OKJ Tryz.prog r (f13.R2bp r q) (codeAt f13.body [1, 1, 1, 1, 0, 1, 0, 1]) (fun e _ w => q e w) := by
  intro a w h
  obtain ⟨D, us, ds, rfl, h0⟩ := PJ_out h
  obtain ⟨v, us, rfl, h1⟩ := un_out h0
  obtain ⟨q35, rfl, h2⟩ := asBox_out h1
  obtain ⟨v, us, rfl, h3⟩ := un_out h2
  obtain ⟨q36, rfl, h4⟩ := asBox_out h3
  obtain ⟨v, us, rfl, h5⟩ := un_out h4
  obtain ⟨q37, rfl, h6⟩ := asBox_out h5
  obtain ⟨v, us, rfl, h7⟩ := un_out h6
  obtain ⟨s38, rfl, h8⟩ := asStr_out h7
  obtain ⟨rfl, h9⟩ := nl_out h8
  obtain ⟨rfl, h10⟩ := dn_out h9
  rw [← f13.R2b_den D q35 q36 q37 s38 r q w] at h10
  exact pc_wp Tryz.mixed f13.R2b_okc h10
theorem f13.R2_den (D : Nat → Value) (q30 : Nat) (q31 : Nat) (q32 : Nat) (v33 : Value) (s34 : ByteArray) (r : Option Nat) (G : (World → Prop) → World → Prop) (q : Exit → World → Prop) (w : World) : spK (FR D 21 [18, 17, 16, 9, 8] [.pointer (some ⟨q30, 0, none⟩), .pointer (some ⟨q31, 0, none⟩), .pointer (some ⟨q32, 0, none⟩), v33, .string s34]) (fun l => den Tryz.prog r (codeAt f13.body [1, 1, 1, 1, 0, 1, 0, 0]) (Exit.then (fun a w => G (fun w => f13.R2bp r q a w) w) (fun _ _ _ => False)) { tmps := l.toArray, defers := [] } w) = f13.R2 q30 q31 q32 s34 r G q w := by kernel_rfl
theorem f13.R2_rule {q10 : Nat} {q11 : Nat} {q12 : Nat} {v13 : Value} {k : Value → World → Prop} {w : World} {l : List HProp} {gf : Nat} {first cap : Array Value} {ds : List Deferred} (hv : v13 = .func (.func gf) first cap) (hent : ∀ args w, (callFunc gf args).run Tryz.prog w = .ok (.enter gf args) w) (hw : SatL w l)
    (h : ∀ (rec : LoopState → Option Code → Loop) (L D : Nat) (w : World), (∀ {s34 : ByteArray} {K : Value → World → Prop} {w : World} {l : List HProp}, SatL w (own Blk L (.loop (rec .ready none)) :: l) → f13.R2 q10 q11 q12 s34 (some L) (BG L rec) (rdE L rec K) w → YLD Tryz.prog L #[.string s34] K w) → SatL w (own Blk L (.loop (rec .ready none)) :: own Blk D (.deferred (some [])) :: l) → CALL Tryz.prog gf (first.toList ++ [Value.func (.yield L) #[] #[]] ++ cap.toList).toArray (fun _ w => f13.R2E q10 q11 q12 v13 k ds rec L D w) w) :
    f13.R2rf q10 q11 q12 v13 k ds w := by
  subst hv
  intro D0
  refine RF_o rfl hent hw fun fn L D w1 h1 => ?_
  refine CALL.mono (h (recO fn _ _ _ _ D) L D w1 ?_ h1) ?_
  · intro s34 K w l hw h
    refine YLD_r (t := (FR D0 21 [18, 17, 16, 9, 8] [.pointer (some ⟨q10, 0, none⟩), .pointer (some ⟨q11, 0, none⟩), .pointer (some ⟨q12, 0, none⟩), .func (.func gf) first cap, .string s34]).toArray) hw rfl (by kernel_rfl) (round_ofP Tryz.mixed (f13.R2b_ok (r := some L)) ?_)
    rw [← f13.R2_den D0 q10 q11 q12 _ s34, spK_eq] at h
    exact h
  · rintro _ w2 h2
    unfold f13.R2E at h2
    rcases h2 with ⟨l2, h3, h4⟩ | ⟨l2, h3, h4⟩
    · exact .inl ⟨l2, h3, fun w' h5 => by have h6 := h4 w' h5; rw [← f13.R2A_den D0 q10 q11 q12 _ k ({ target := .collected D, args := #[] } :: ds), spK_eq] at h6; exact h6⟩
    · exact .inr ⟨_, l2, h3, fun w' h5 => den_wp (r := none) Tryz.mixed _ _ _ _ (by have h6 := h4 w' h5; rw [← f13.R2Aret_den D0 q10 q11 q12 _ k ({ target := .collected D, args := #[] } :: ds), spK_eq] at h6; exact h6)⟩
def f13.b (p1 : Option Addr) (k : Value → World → Prop) (w : World) : Prop :=
  AL (.cells #[slv (none, 0, 0)] 34) (fun q2 w => AL (.cells #[.bool false] 4) (fun q3 w => AL (.cells #[slv (none, 0, 0)] 34) (fun q4 w => CALL Tryz.prog 38 #[.pointer p1] (fun v5 w => ∃ v6 : Value, v5 = v6 ∧ FNIL v6 (fun b7 => brK b7 (ST (Addr.add ⟨q2, 0, none⟩ 0) (slv (none, 0, 0)) (fun w => ST (Addr.add ⟨q3, 0, none⟩ 0) (.bool false) (fun w => LD slv ⟨q2, 0, none⟩ (fun l8 w => LD Value.bool ⟨q3, 0, none⟩ (fun b9 w => k (.tuple #[slv l8, .bool b9]) w) w) w) w) w) (f13.R2rf q2 q3 q4 v6 k [] w))) w) w) w) w
theorem f13.den (p1 : Option Addr) (k : Value → World → Prop) (w : World) : pc Tryz.prog none (.seq none .none (.seq none .none (.seq none .none (.seq none .none (.seq (some (f13.J1p k)) (.seq none .none (.block (.at (f13.R2p k)))) .none))))) f13.body (retQ Tryz.prog [.cell 2 34, .cell 3 4] k) (fun _ => undef) 21 [20] [.pointer p1] [] w = f13.b p1 k w := by kernel_rfl
theorem f13.okc {k : Value → World → Prop} : okC Tryz.prog none (.seq none .none (.seq none .none (.seq none .none (.seq none .none (.seq (some (f13.J1p k)) (.seq none .none (.block (.at (f13.R2p k)))) .none))))) f13.body (retQ Tryz.prog [.cell 2 34, .cell 3 4] k) :=
  Eq.mpr (by kernel_rfl : okC Tryz.prog none (.seq none .none (.seq none .none (.seq none .none (.seq none .none (.seq (some (f13.J1p k)) (.seq none .none (.block (.at (f13.R2p k)))) .none))))) f13.body (retQ Tryz.prog [.cell 2 34, .cell 3 4] k) = (((True) ∧ (((True) ∧ (((True) ∧ (((True) ∧ (((((True) ∧ (OKJ Tryz.prog none (f13.R2p k) (codeAt f13.body [1, 1, 1, 1, 0, 1, 0]) (f13.Q1 k)))) ∧ OKJ Tryz.prog none (f13.J1p k) (codeAt f13.body [1, 1, 1, 1, 1]) (f13.Q2 k)))))))))))) (⟨trivial, ⟨trivial, ⟨trivial, ⟨trivial, ⟨⟨trivial, f13.R2_ok⟩, f13.J1_ok⟩⟩⟩⟩⟩)
theorem f13.call {p1 : Option Addr} {k : Value → World → Prop} {w : World} (h : f13.b p1 k w) : CALL Tryz.prog 13 #[.pointer p1] k w :=
  calls_of_pc Tryz.mixed Tryz.func13 (by kernel_rfl : Tryz.f13.body = some f13.body) (Tryz.call13 _ _) (by kernel_rfl : #[.pointer p1] ++ Array.replicate (Tryz.f13.ntmps - (#[.pointer p1] : Array Value).size) undef = (FR (fun _ => undef) 21 [20] [.pointer p1]).toArray) (by kernel_rfl : Tryz.f13.results.toList = [.cell 2 34, .cell 3 4]) f13.okc ((f13.den p1 k w).symm ▸ h)

/-! rollcall/rollcalllaw19.members -/
noncomputable def f18.body : Code := (Tryz.f18.body).getD .skip
def f18.J1 (p23 : Option Addr) (q24 : Nat) (q25 : Nat) (q26 : Nat) (q27 : Nat) (k : Value → World → Prop) (ds : List Deferred) (w : World) : Prop :=
  DRC (fun C w => STL C Value.bool ⟨q27, 0, none⟩ (fun b28 => brK b28 (STL C (Value.int .i64) ⟨q26, 0, none⟩ (fun n29 => STL C slv ⟨q24, 0, none⟩ (fun l30 => ∃ n31 : Int, (∀ w', C w' → (fun w => (.int .i64 ((l30.2.1 : Nat) : Int) : Value) = .int .i64 n31 ∧ w = w') w') ∧ brK (n29 == n31) (STL C (Value.int .i64) ⟨q26, 0, none⟩ (fun n32 => CALL Tryz.prog 46 #[.pointer p23] (fun v33 w => ∃ n34 : Int, v33 = .int .i64 n34 ∧ C w ∧ ST (Addr.add ⟨q25, 0, none⟩ 0) (.bool (n34 == n32)) (fun w => closeD (fun w => LD Value.bool ⟨q25, 0, none⟩ (fun b35 w => k (.bool b35) w) w) ds w) w) w)) (ST (Addr.add ⟨q25, 0, none⟩ 0) (.bool false) (fun w => closeD (fun w => LD Value.bool ⟨q25, 0, none⟩ (fun b36 w => k (.bool b36) w) w) ds w) w)))) (ST (Addr.add ⟨q25, 0, none⟩ 0) (.bool false) (fun w => closeD (fun w => LD Value.bool ⟨q25, 0, none⟩ (fun b37 w => k (.bool b37) w) w) ds w) w))) w
def f18.J1p (k : Value → World → Prop) : Act → World → Prop := PJ 43 [42, 39, 38, 37, 36] fun us ds w => un us fun v us => asP v fun p23 => un us fun v us => asBox v fun q24 => un us fun v us => asBox v fun q25 => un us fun v us => asBox v fun q26 => un us fun v us => asBox v fun q27 => nl us (f18.J1 p23 q24 q25 q26 q27 k ds w)
def f18.Q1 (k : Value → World → Prop) : Exit → Act → World → Prop := (Exit.inBlock 0 (Exit.then (f18.J1p k) (retQ Tryz.prog [.cell 4 4] k)))
def f18.R2rf (p11 : Option Addr) (q12 : Nat) (q13 : Nat) (q14 : Nat) (q15 : Nat) (v16 : Value) (k : Value → World → Prop) (ds : List Deferred) (w : World) : Prop := ∀ D : Nat → Value, (Code.rangeFunc (.tmp 13) #[14] (codeAt f18.body [1, 1, 1, 1, 1, 0, 1, 0, 0]) (codeAt f18.body [1, 1, 1, 1, 1, 0, 1, 0, 1])).wpIn (Wd none) 0 Tryz.prog (f18.Q1 k) (fr D 43 [42, 39, 38, 37, 36, 29] [.pointer p11, .pointer (some ⟨q12, 0, none⟩), .pointer (some ⟨q13, 0, none⟩), .pointer (some ⟨q14, 0, none⟩), .pointer (some ⟨q15, 0, none⟩), v16] ds) w
def f18.R2p (k : Value → World → Prop) : Act → World → Prop := PJ 43 [42, 39, 38, 37, 36, 29] fun us ds w => un us fun v us => asP v fun p11 => un us fun v us => asBox v fun q12 => un us fun v us => asBox v fun q13 => un us fun v us => asBox v fun q14 => un us fun v us => asBox v fun q15 => un us fun v16 us => nl us (f18.R2rf p11 q12 q13 q14 q15 v16 k ds w)
def f18.Q2 (k : Value → World → Prop) : Exit → Act → World → Prop := (retQ Tryz.prog [.cell 4 4] k)
def f18.R2A (p17 : Option Addr) (q18 : Nat) (q19 : Nat) (q20 : Nat) (q21 : Nat) (v22 : Value) (k : Value → World → Prop) (ds : List Deferred) (w : World) : Prop :=
  f18.J1 p17 q18 q19 q20 q21 k ds w
def f18.R2Aret (p38 : Option Addr) (q39 : Nat) (q40 : Nat) (q41 : Nat) (q42 : Nat) (v43 : Value) (k : Value → World → Prop) (ds : List Deferred) (w : World) : Prop :=
  closeD (fun w => LD Value.bool ⟨q40, 0, none⟩ (fun b44 w => k (.bool b44) w) w) ds w
def f18.R2b (q55 : Nat) (q56 : Nat) (q57 : Nat) (q58 : Nat) (q59 : Nat) (r : Option Nat) (q : Exit → World → Prop) (w : World) : Prop :=
  LD (Value.int .i64) ⟨q57, 0, none⟩ (fun n60 w => LD slv ⟨q55, 0, none⟩ (fun l61 w => brK (decide (((l61.2.1 : Nat) : Int) ≤ n60)) (ST (Addr.add ⟨q56, 0, none⟩ 0) (.bool false) (fun w => q .ret w) w) (DR (fun w => LD Value.bool ⟨q58, 0, none⟩ (fun b62 w => brK b62 (LD (Value.int .i64) (Addr.add ⟨q59, 0, none⟩ 0) (fun n63 w => LD Value.bool (Addr.add ⟨q59, 0, none⟩ 1) (fun b64 w => LD Value.bool (Addr.add ⟨q59, 0, none⟩ 2) (fun b65 w => LD slv ⟨q55, 0, none⟩ (fun l66 w => LD (Value.int .i64) ⟨q57, 0, none⟩ (fun n67 w => IX l66 n67 3 (fun a68 => LD (Value.int .i64) (Addr.add a68 0) (fun n69 w => LD Value.bool (Addr.add a68 1) (fun b70 w => LD Value.bool (Addr.add a68 2) (fun b71 w => ST (Addr.add ⟨q58, 0, none⟩ 0) (.bool (((n63 : Int) == n69) && ((b64 == b70) && ((b65 == b71) && true)))) (fun w => LD (Value.int .i64) ⟨q57, 0, none⟩ (fun n72 w => ST (Addr.add ⟨q57, 0, none⟩ 0) (.int .i64 (IntKind.wrap .i64 (n72 + 1))) (fun w => q .normal w) w) w) w) w) w) w)) w) w) w) w) w) (ST (Addr.add ⟨q58, 0, none⟩ 0) (.bool false) (fun w => LD (Value.int .i64) ⟨q57, 0, none⟩ (fun n73 w => ST (Addr.add ⟨q57, 0, none⟩ 0) (.int .i64 (IntKind.wrap .i64 (n73 + 1))) (fun w => q .normal w) w) w) w)) w) w)) w) w
def f18.R2bp (r : Option Nat) (q : Exit → World → Prop) : Act → World → Prop := PJ 43 [39, 38, 37, 36, 34] fun us ds w => un us fun v us => asBox v fun q55 => un us fun v us => asBox v fun q56 => un us fun v us => asBox v fun q57 => un us fun v us => asBox v fun q58 => un us fun v us => asBox v fun q59 => nl us (dn ds (f18.R2b q55 q56 q57 q58 q59 r q w))
def f18.R2 (q46 : Nat) (q47 : Nat) (q48 : Nat) (q49 : Nat) (n51 : Int) (b52 : Bool) (b53 : Bool) (r : Option Nat) (G : (World → Prop) → World → Prop) (q : Exit → World → Prop) (w : World) : Prop :=
  AL (.cells #[.int .i64 0, .bool false, .bool false] 39) (fun q54 w => ST (Addr.add ⟨q54, 0, none⟩ 0) (.int .i64 n51) (fun w => ST (Addr.add ⟨q54, 0, none⟩ 1) (.bool b52) (fun w => ST (Addr.add ⟨q54, 0, none⟩ 2) (.bool b53) (fun w => G (fun w => f18.R2b q46 q47 q48 q49 q54 r q w) w) w) w) w) w
def f18.R2E (p11 : Option Addr) (q12 : Nat) (q13 : Nat) (q14 : Nat) (q15 : Nat) (v16 : Value) (k : Value → World → Prop) (ds : List Deferred) (rec : LoopState → Option Code → Loop) (L : Nat) (D : Nat) (w : World) : Prop :=
  (∃ l, SatL w (own Blk L (.loop (rec .ready none)) :: l) ∧ ∀ w, SatL w (own Blk L (.loop (rec .exhausted none)) :: l) → f18.R2A p11 q12 q13 q14 q15 v16 k ({ target := .collected D, args := #[] } :: ds) w) ∨ (∃ l, SatL w (own Blk L (.loop (rec .done (some .ret))) :: l) ∧ ∀ w, SatL w (own Blk L (.loop (rec .exhausted (some .ret))) :: l) → f18.R2Aret p11 q12 q13 q14 q15 v16 k ({ target := .collected D, args := #[] } :: ds) w)
theorem f18.R2_ok {k : Value → World → Prop} : OKJ Tryz.prog none (f18.R2p k) (codeAt f18.body [1, 1, 1, 1, 1, 0, 1, 0]) (f18.Q1 k) := by
  intro a w h
  obtain ⟨D, us, ds, rfl, h0⟩ := PJ_out h
  obtain ⟨v, us, rfl, h1⟩ := un_out h0
  obtain ⟨p11, rfl, h2⟩ := asP_out h1
  obtain ⟨v, us, rfl, h3⟩ := un_out h2
  obtain ⟨q12, rfl, h4⟩ := asBox_out h3
  obtain ⟨v, us, rfl, h5⟩ := un_out h4
  obtain ⟨q13, rfl, h6⟩ := asBox_out h5
  obtain ⟨v, us, rfl, h7⟩ := un_out h6
  obtain ⟨q14, rfl, h8⟩ := asBox_out h7
  obtain ⟨v, us, rfl, h9⟩ := un_out h8
  obtain ⟨q15, rfl, h10⟩ := asBox_out h9
  obtain ⟨v16, us, rfl, h11⟩ := un_out h10
  obtain ⟨rfl, h12⟩ := nl_out h11
  rw [show (codeAt f18.body [1, 1, 1, 1, 1, 0, 1, 0]) = (Code.rangeFunc (.tmp 13) #[14] (codeAt f18.body [1, 1, 1, 1, 1, 0, 1, 0, 0]) (codeAt f18.body [1, 1, 1, 1, 1, 0, 1, 0, 1])) by kernel_rfl]
  exact h12 D
theorem f18.J1_den (D : Nat → Value) (p23 : Option Addr) (q24 : Nat) (q25 : Nat) (q26 : Nat) (q27 : Nat) (k : Value → World → Prop) (ds : List Deferred) (w : World) : pc Tryz.prog none .none (codeAt f18.body [1, 1, 1, 1, 1, 1]) (f18.Q2 k) D 43 [42, 39, 38, 37, 36] [.pointer p23, .pointer (some ⟨q24, 0, none⟩), .pointer (some ⟨q25, 0, none⟩), .pointer (some ⟨q26, 0, none⟩), .pointer (some ⟨q27, 0, none⟩)] ds w = f18.J1 p23 q24 q25 q26 q27 k ds w := by kernel_rfl
theorem f18.J1_okc {k : Value → World → Prop} : okC Tryz.prog none .none (codeAt f18.body [1, 1, 1, 1, 1, 1]) (f18.Q2 k) :=
  Eq.mpr (by kernel_rfl : okC Tryz.prog none .none (codeAt f18.body [1, 1, 1, 1, 1, 1]) (f18.Q2 k) = (True)) (trivial)
theorem f18.J1_ok {k : Value → World → Prop} : OKJ Tryz.prog none (f18.J1p k) (codeAt f18.body [1, 1, 1, 1, 1, 1]) (f18.Q2 k) := by
  intro a w h
  obtain ⟨D, us, ds, rfl, h0⟩ := PJ_out h
  obtain ⟨v, us, rfl, h1⟩ := un_out h0
  obtain ⟨p23, rfl, h2⟩ := asP_out h1
  obtain ⟨v, us, rfl, h3⟩ := un_out h2
  obtain ⟨q24, rfl, h4⟩ := asBox_out h3
  obtain ⟨v, us, rfl, h5⟩ := un_out h4
  obtain ⟨q25, rfl, h6⟩ := asBox_out h5
  obtain ⟨v, us, rfl, h7⟩ := un_out h6
  obtain ⟨q26, rfl, h8⟩ := asBox_out h7
  obtain ⟨v, us, rfl, h9⟩ := un_out h8
  obtain ⟨q27, rfl, h10⟩ := asBox_out h9
  obtain ⟨rfl, h11⟩ := nl_out h10
  rw [← f18.J1_den D p23 q24 q25 q26 q27 k ds w] at h11
  exact pc_wp Tryz.mixed f18.J1_okc h11
theorem f18.R2A_den (D : Nat → Value) (p17 : Option Addr) (q18 : Nat) (q19 : Nat) (q20 : Nat) (q21 : Nat) (v22 : Value) (k : Value → World → Prop) (ds : List Deferred) (w : World) : spK (FR D 43 [42, 39, 38, 37, 36, 29] [.pointer p17, .pointer (some ⟨q18, 0, none⟩), .pointer (some ⟨q19, 0, none⟩), .pointer (some ⟨q20, 0, none⟩), .pointer (some ⟨q21, 0, none⟩), v22]) (fun l => (f18.Q1 k) .normal { tmps := l.toArray, defers := ds } w) = f18.R2A p17 q18 q19 q20 q21 v22 k ds w := by kernel_rfl
theorem f18.R2Aret_den (D : Nat → Value) (p38 : Option Addr) (q39 : Nat) (q40 : Nat) (q41 : Nat) (q42 : Nat) (v43 : Value) (k : Value → World → Prop) (ds : List Deferred) (w : World) : spK (FR D 43 [42, 39, 38, 37, 36, 29] [.pointer p38, .pointer (some ⟨q39, 0, none⟩), .pointer (some ⟨q40, 0, none⟩), .pointer (some ⟨q41, 0, none⟩), .pointer (some ⟨q42, 0, none⟩), v43]) (fun l => (f18.Q1 k) .ret { tmps := l.toArray, defers := ds } w) = f18.R2Aret p38 q39 q40 q41 q42 v43 k ds w := by kernel_rfl
theorem f18.R2b_den (D : Nat → Value) (q55 : Nat) (q56 : Nat) (q57 : Nat) (q58 : Nat) (q59 : Nat) (r : Option Nat) (q : Exit → World → Prop) (w : World) : pc Tryz.prog r .none (codeAt f18.body [1, 1, 1, 1, 1, 0, 1, 0, 1]) (fun e _ w => q e w) D 43 [39, 38, 37, 36, 34] [.pointer (some ⟨q55, 0, none⟩), .pointer (some ⟨q56, 0, none⟩), .pointer (some ⟨q57, 0, none⟩), .pointer (some ⟨q58, 0, none⟩), .pointer (some ⟨q59, 0, none⟩)] [] w = f18.R2b q55 q56 q57 q58 q59 r q w := by kernel_rfl
theorem f18.R2b_okc {r : Option Nat} {q : Exit → World → Prop} : okC Tryz.prog r .none (codeAt f18.body [1, 1, 1, 1, 1, 0, 1, 0, 1]) (fun e _ w => q e w) :=
  Eq.mpr (by kernel_rfl : okC Tryz.prog r .none (codeAt f18.body [1, 1, 1, 1, 1, 0, 1, 0, 1]) (fun e _ w => q e w) = (True)) (trivial)
theorem f18.R2b_ok {r : Option Nat} {q : Exit → World → Prop} : OKJ Tryz.prog r (f18.R2bp r q) (codeAt f18.body [1, 1, 1, 1, 1, 0, 1, 0, 1]) (fun e _ w => q e w) := by
  intro a w h
  obtain ⟨D, us, ds, rfl, h0⟩ := PJ_out h
  obtain ⟨v, us, rfl, h1⟩ := un_out h0
  obtain ⟨q55, rfl, h2⟩ := asBox_out h1
  obtain ⟨v, us, rfl, h3⟩ := un_out h2
  obtain ⟨q56, rfl, h4⟩ := asBox_out h3
  obtain ⟨v, us, rfl, h5⟩ := un_out h4
  obtain ⟨q57, rfl, h6⟩ := asBox_out h5
  obtain ⟨v, us, rfl, h7⟩ := un_out h6
  obtain ⟨q58, rfl, h8⟩ := asBox_out h7
  obtain ⟨v, us, rfl, h9⟩ := un_out h8
  obtain ⟨q59, rfl, h10⟩ := asBox_out h9
  obtain ⟨rfl, h11⟩ := nl_out h10
  obtain ⟨rfl, h12⟩ := dn_out h11
  rw [← f18.R2b_den D q55 q56 q57 q58 q59 r q w] at h12
  exact pc_wp Tryz.mixed f18.R2b_okc h12
theorem f18.R2_den (D : Nat → Value) (p45 : Option Addr) (q46 : Nat) (q47 : Nat) (q48 : Nat) (q49 : Nat) (v50 : Value) (n51 : Int) (b52 : Bool) (b53 : Bool) (r : Option Nat) (G : (World → Prop) → World → Prop) (q : Exit → World → Prop) (w : World) : spK (FR D 43 [42, 39, 38, 37, 36, 29, 28] [.pointer p45, .pointer (some ⟨q46, 0, none⟩), .pointer (some ⟨q47, 0, none⟩), .pointer (some ⟨q48, 0, none⟩), .pointer (some ⟨q49, 0, none⟩), v50, .agg #[.int .i64 n51, .bool b52, .bool b53]]) (fun l => den Tryz.prog r (codeAt f18.body [1, 1, 1, 1, 1, 0, 1, 0, 0]) (Exit.then (fun a w => G (fun w => f18.R2bp r q a w) w) (fun _ _ _ => False)) { tmps := l.toArray, defers := [] } w) = f18.R2 q46 q47 q48 q49 n51 b52 b53 r G q w := by kernel_rfl
theorem f18.R2_rule {p11 : Option Addr} {q12 : Nat} {q13 : Nat} {q14 : Nat} {q15 : Nat} {v16 : Value} {k : Value → World → Prop} {w : World} {l : List HProp} {gf : Nat} {first cap : Array Value} {ds : List Deferred} (hv : v16 = .func (.func gf) first cap) (hent : ∀ args w, (callFunc gf args).run Tryz.prog w = .ok (.enter gf args) w) (hw : SatL w l)
    (h : ∀ (rec : LoopState → Option Code → Loop) (L D : Nat) (w : World), (∀ {n51 : Int} {b52 : Bool} {b53 : Bool} {K : Value → World → Prop} {w : World} {l : List HProp}, SatL w (own Blk L (.loop (rec .ready none)) :: l) → f18.R2 q12 q13 q14 q15 n51 b52 b53 (some L) (BG L rec) (rdE L rec K) w → YLD Tryz.prog L #[.agg #[.int .i64 n51, .bool b52, .bool b53]] K w) → SatL w (own Blk L (.loop (rec .ready none)) :: own Blk D (.deferred (some [])) :: l) → CALL Tryz.prog gf (first.toList ++ [Value.func (.yield L) #[] #[]] ++ cap.toList).toArray (fun _ w => f18.R2E p11 q12 q13 q14 q15 v16 k ds rec L D w) w) :
    f18.R2rf p11 q12 q13 q14 q15 v16 k ds w := by
  subst hv
  intro D0
  refine RF_o rfl hent hw fun fn L D w1 h1 => ?_
  refine CALL.mono (h (recO fn _ _ _ _ D) L D w1 ?_ h1) ?_
  · intro n51 b52 b53 K w l hw h
    refine YLD_r (t := (FR D0 43 [42, 39, 38, 37, 36, 29, 28] [.pointer p11, .pointer (some ⟨q12, 0, none⟩), .pointer (some ⟨q13, 0, none⟩), .pointer (some ⟨q14, 0, none⟩), .pointer (some ⟨q15, 0, none⟩), .func (.func gf) first cap, .agg #[.int .i64 n51, .bool b52, .bool b53]]).toArray) hw rfl (by kernel_rfl) (round_ofP Tryz.mixed (f18.R2b_ok (r := some L)) ?_)
    rw [← f18.R2_den D0 p11 q12 q13 q14 q15 _ n51 b52 b53, spK_eq] at h
    exact h
  · rintro _ w2 h2
    unfold f18.R2E at h2
    rcases h2 with ⟨l2, h3, h4⟩ | ⟨l2, h3, h4⟩
    · exact .inl ⟨l2, h3, fun w' h5 => by have h6 := h4 w' h5; rw [← f18.R2A_den D0 p11 q12 q13 q14 q15 _ k ({ target := .collected D, args := #[] } :: ds), spK_eq] at h6; exact h6⟩
    · exact .inr ⟨_, l2, h3, fun w' h5 => den_wp (r := none) Tryz.mixed _ _ _ _ (by have h6 := h4 w' h5; rw [← f18.R2Aret_den D0 p11 q12 q13 q14 q15 _ k ({ target := .collected D, args := #[] } :: ds), spK_eq] at h6; exact h6)⟩
def f18.b (p1 : Option Addr) (l2 : Sl) (k : Value → World → Prop) (w : World) : Prop :=
  AL (.cells #[slv l2] 47) (fun q3 w => AL (.cells #[.bool false] 4) (fun q4 w => AL (.cells #[.int .i64 0] 3) (fun q5 w => ST (Addr.add ⟨q5, 0, none⟩ 0) (.int .i64 0) (fun w => AL (.cells #[.bool false] 4) (fun q6 w => ST (Addr.add ⟨q6, 0, none⟩ 0) (.bool true) (fun w => CALL Tryz.prog 45 #[.pointer p1] (fun v7 w => ∃ v8 : Value, v7 = v8 ∧ FNIL v8 (fun b9 => brK b9 (ST (Addr.add ⟨q4, 0, none⟩ 0) (.bool false) (fun w => LD Value.bool ⟨q4, 0, none⟩ (fun b10 w => k (.bool b10) w) w) w) (f18.R2rf p1 q3 q4 q5 q6 v8 k [] w))) w) w) w) w) w) w) w
theorem f18.den (p1 : Option Addr) (l2 : Sl) (k : Value → World → Prop) (w : World) : pc Tryz.prog none (.seq none .none (.seq none .none (.seq none .none (.seq none .none (.seq none .none (.seq (some (f18.J1p k)) (.seq none .none (.block (.at (f18.R2p k)))) .none)))))) f18.body (retQ Tryz.prog [.cell 4 4] k) (fun _ => undef) 43 [42, 41] [.pointer p1, slv l2] [] w = f18.b p1 l2 k w := by kernel_rfl
theorem f18.okc {k : Value → World → Prop} : okC Tryz.prog none (.seq none .none (.seq none .none (.seq none .none (.seq none .none (.seq none .none (.seq (some (f18.J1p k)) (.seq none .none (.block (.at (f18.R2p k)))) .none)))))) f18.body (retQ Tryz.prog [.cell 4 4] k) :=
  Eq.mpr (by kernel_rfl : okC Tryz.prog none (.seq none .none (.seq none .none (.seq none .none (.seq none .none (.seq none .none (.seq (some (f18.J1p k)) (.seq none .none (.block (.at (f18.R2p k)))) .none)))))) f18.body (retQ Tryz.prog [.cell 4 4] k) = (((True) ∧ (((True) ∧ (((True) ∧ (((True) ∧ (((True) ∧ (((((True) ∧ (OKJ Tryz.prog none (f18.R2p k) (codeAt f18.body [1, 1, 1, 1, 1, 0, 1, 0]) (f18.Q1 k)))) ∧ OKJ Tryz.prog none (f18.J1p k) (codeAt f18.body [1, 1, 1, 1, 1, 1]) (f18.Q2 k)))))))))))))) (⟨trivial, ⟨trivial, ⟨trivial, ⟨trivial, ⟨trivial, ⟨⟨trivial, f18.R2_ok⟩, f18.J1_ok⟩⟩⟩⟩⟩⟩)
theorem f18.call {p1 : Option Addr} {l2 : Sl} {k : Value → World → Prop} {w : World} (h : f18.b p1 l2 k w) : CALL Tryz.prog 18 #[.pointer p1, slv l2] k w :=
  calls_of_pc Tryz.mixed Tryz.func18 (by kernel_rfl : Tryz.f18.body = some f18.body) (Tryz.call18 _ _) (by kernel_rfl : #[.pointer p1, slv l2] ++ Array.replicate (Tryz.f18.ntmps - (#[.pointer p1, slv l2] : Array Value).size) undef = (FR (fun _ => undef) 43 [42, 41] [.pointer p1, slv l2]).toArray) (by kernel_rfl : Tryz.f18.results.toList = [.cell 4 4]) f18.okc ((f18.den p1 l2 k w).symm ▸ h)

/-! (*rollcall/rollcallref19.Room).Members -/
noncomputable def f19.body : Code := (Tryz.f19.body).getD .skip
def f19.J3 (l34 : Sl) (k : Value → World → Prop) (w : World) : Prop :=
  k (slv l34) w
def f19.J3p (k : Value → World → Prop) : Act → World → Prop := PJ 48 [42] fun us ds w => un us fun v us => asS v fun l34 => nl us (dn ds (f19.J3 l34 k w))
def f19.Q3 (k : Value → World → Prop) : Exit → Act → World → Prop := (Exit.inBlock 2 (Exit.then (f19.J3p k) (retQ Tryz.prog [.tmp 2] k)))
def f19.L4lp (p15 : Option Addr) (l16 : Sl) (l17 : Sl) (n18 : Int) (k : Value → World → Prop) (w : World) : Prop := ∀ D : Nat → Value, (Code.loop (codeAt f19.body [1, 1, 1, 1, 0, 1, 0, 0])).wpIn (Wd none) 0 Tryz.prog (f19.Q3 k) (fr D 48 [47, 44, 42, 41] [.pointer p15, slv l16, slv l17, .int .i64 n18] []) w
def f19.J1 (p13 : Option Addr) (l14 : Sl) (k : Value → World → Prop) (w : World) : Prop :=
  f19.L4lp p13 l14 (none, 0, 0) 0 k w
def f19.J1p (k : Value → World → Prop) : Act → World → Prop := PJ 48 [47, 44] fun us ds w => un us fun v us => asP v fun p13 => un us fun v us => asS v fun l14 => nl us (dn ds (f19.J1 p13 l14 k w))
def f19.Q1 (k : Value → World → Prop) : Exit → Act → World → Prop := (Exit.inBlock 0 (Exit.then (f19.J1p k) (retQ Tryz.prog [.tmp 2] k)))
def f19.L2k (Kn1 : Option Addr → Sl → Int → World → Prop) : Act → World → Prop := PJ 48 [47, 44, 43] fun us ds w => un us fun v us => asP v fun p2 => un us fun v us => asS v fun l3 => un us fun v us => asI .i64 v fun n4 => nl us (dn ds (Kn1 p2 l3 n4 w))
def f19.Q2 (k : Value → World → Prop) : Exit → Act → World → Prop := (retQ Tryz.prog [.tmp 2] k)
def f19.L4k (Kn1 : Option Addr → Sl → Sl → Int → World → Prop) : Act → World → Prop := PJ 48 [47, 44, 42, 41] fun us ds w => un us fun v us => asP v fun p15 => un us fun v us => asS v fun l16 => un us fun v us => asS v fun l17 => un us fun v us => asI .i64 v fun n18 => nl us (dn ds (Kn1 p15 l16 l17 n18 w))
def f19.L4 (p15 : Option Addr) (l16 : Sl) (l17 : Sl) (n18 : Int) (Kn1 : Option Addr → Sl → Sl → Int → World → Prop) (k : Value → World → Prop) (w : World) : Prop :=
  brK (decide (n18 < ((l16.2.1 : Nat) : Int))) (DRC (fun C w => NN p15 (fun a19 => STL C slv (Addr.add a19 2) (fun l20 => IX l16 n18 1 (fun a21 => STL C (Value.int .i64) a21 (fun n22 => CALL Tryz.prog 17 #[.pointer p15, .int .i64 n22] (fun v23 w => ∃ n24 : Int, v23 = .int .i64 n24 ∧ C w ∧ IX l20 n24 3 (fun a25 => ∃ n26 : Int, ∃ b27 : Bool, ∃ b28 : Bool, (∀ w', C w' → (fun w => LD (Value.int .i64) (Addr.add a25 0) (fun n29 w => LD Value.bool (Addr.add a25 1) (fun b30 w => LD Value.bool (Addr.add a25 2) (fun b31 w => (.agg #[.int .i64 n29, .bool b30, .bool b31] : Value) = .agg #[.int .i64 n26, .bool b27, .bool b28] ∧ w = w') w) w) w) w') ∧ AL (.cells #[.int .i64 n26, .bool b27, .bool b28] 39) (fun q32 w => APP 39 3 16 #[.int .i64 0, .bool false, .bool false] l17 1 (fun w => cellsOfS w ((some ⟨q32, 0, none⟩), 1, 1) (1 * 3)) (fun l33 w => Kn1 p15 l16 l33 (IntKind.wrap .i64 (n18 + 1)) w) w) w)) w))))) w) (f19.J3 l17 k w)
def f19.L4p (k : Value → World → Prop) : Act → World → Prop := PJ 48 [47, 44, 42, 41] fun us ds w => un us fun v us => asP v fun p15 => un us fun v us => asS v fun l16 => un us fun v us => asS v fun l17 => un us fun v us => asI .i64 v fun n18 => nl us (dn ds (f19.L4lp p15 l16 l17 n18 k w))
def f19.L4K (p15 : Option Addr) (l16 : Sl) (I : Sl → Int → World → Prop) (μ : Sl → Int → World → Nat) (m : Nat) (p15' : Option Addr) (l16' : Sl) (l17' : Sl) (n18' : Int) (w : World) : Prop := (p15' = p15 ∧ l16' = l16) ∧ I l17' n18' w ∧ μ l17' n18' w < m
def f19.L2 (p2 : Option Addr) (l3 : Sl) (n4 : Int) (Kn1 : Option Addr → Sl → Int → World → Prop) (k : Value → World → Prop) (w : World) : Prop :=
  NN p2 (fun a5 => LD slv (Addr.add a5 2) (fun l6 w => brK (decide (n4 < ((l6.2.1 : Nat) : Int))) (NN p2 (fun a7 => LD slv (Addr.add a7 2) (fun l8 w => IX l8 n4 3 (fun a9 => LD (Value.int .i64) (Addr.add a9 0) (fun n10 w => CALL Tryz.prog 47 #[slv l3, .int .i64 n10] (fun v11 w => ∃ l12 : Sl, v11 = slv l12 ∧ Kn1 p2 l12 (IntKind.wrap .i64 (n4 + 1)) w) w) w)) w)) (f19.J1 p2 l3 k w)) w)
def f19.L2lp (p2 : Option Addr) (l3 : Sl) (n4 : Int) (k : Value → World → Prop) (w : World) : Prop := ∀ D : Nat → Value, (Code.loop (codeAt f19.body [1, 1, 0, 1, 0, 0])).wpIn (Wd none) 0 Tryz.prog (f19.Q1 k) (fr D 48 [47, 44, 43] [.pointer p2, slv l3, .int .i64 n4] []) w
def f19.L2p (k : Value → World → Prop) : Act → World → Prop := PJ 48 [47, 44, 43] fun us ds w => un us fun v us => asP v fun p2 => un us fun v us => asS v fun l3 => un us fun v us => asI .i64 v fun n4 => nl us (dn ds (f19.L2lp p2 l3 n4 k w))
def f19.L2K (p2 : Option Addr) (I : Sl → Int → World → Prop) (μ : Sl → Int → World → Nat) (m : Nat) (p2' : Option Addr) (l3' : Sl) (n4' : Int) (w : World) : Prop := (p2' = p2) ∧ I l3' n4' w ∧ μ l3' n4' w < m
theorem f19.J3_den (D : Nat → Value) (l34 : Sl) (k : Value → World → Prop) (w : World) : pc Tryz.prog none .none (codeAt f19.body [1, 1, 1, 1, 1]) (f19.Q2 k) D 48 [42] [slv l34] [] w = f19.J3 l34 k w := by kernel_rfl
theorem f19.J3_okc {k : Value → World → Prop} : okC Tryz.prog none .none (codeAt f19.body [1, 1, 1, 1, 1]) (f19.Q2 k) :=
  Eq.mpr (by kernel_rfl : okC Tryz.prog none .none (codeAt f19.body [1, 1, 1, 1, 1]) (f19.Q2 k) = (True)) (trivial)
theorem f19.J3_ok {k : Value → World → Prop} : OKJ Tryz.prog none (f19.J3p k) (codeAt f19.body [1, 1, 1, 1, 1]) (f19.Q2 k) := by
  intro a w h
  obtain ⟨D, us, ds, rfl, h0⟩ := PJ_out h
  obtain ⟨v, us, rfl, h1⟩ := un_out h0
  obtain ⟨l34, rfl, h2⟩ := asS_out h1
  obtain ⟨rfl, h3⟩ := nl_out h2
  obtain ⟨rfl, h4⟩ := dn_out h3
  rw [← f19.J3_den D l34 k w] at h4
  exact pc_wp Tryz.mixed f19.J3_okc h4
theorem f19.L4_next {p15 : Option Addr} {l16 : Sl} {I : Sl → Int → World → Prop} {μ : Sl → Int → World → Nat} {m : Nat} {l17 : Sl} {n18 : Int} {w : World} (hI : I l17 n18 w) (hlt : μ l17 n18 w < m) : f19.L4K p15 l16 I μ m p15 l16 l17 n18 w := ⟨⟨rfl, rfl⟩, hI, hlt⟩
theorem f19.L4_den (D : Nat → Value) (p15 : Option Addr) (l16 : Sl) (l17 : Sl) (n18 : Int) (Kn1 : Option Addr → Sl → Sl → Int → World → Prop) (k : Value → World → Prop) (w : World) : pc Tryz.prog none .none (codeAt f19.body [1, 1, 1, 1, 0, 1, 0, 0]) (Exit.then (f19.L4k Kn1) (f19.Q3 k)) D 48 [47, 44, 42, 41] [.pointer p15, slv l16, slv l17, .int .i64 n18] [] w = f19.L4 p15 l16 l17 n18 Kn1 k w := by kernel_rfl
theorem f19.L4_okc {Kn1 : Option Addr → Sl → Sl → Int → World → Prop} {k : Value → World → Prop} : okC Tryz.prog none .none (codeAt f19.body [1, 1, 1, 1, 0, 1, 0, 0]) (Exit.then (f19.L4k Kn1) (f19.Q3 k)) :=
  Eq.mpr (by kernel_rfl : okC Tryz.prog none .none (codeAt f19.body [1, 1, 1, 1, 0, 1, 0, 0]) (Exit.then (f19.L4k Kn1) (f19.Q3 k)) = (True)) (trivial)
theorem f19.L4_ok {k : Value → World → Prop} : OKJ Tryz.prog none (f19.L4p k) (codeAt f19.body [1, 1, 1, 1, 0, 1, 0]) (f19.Q3 k) := by
  intro a w h
  obtain ⟨D, us, ds, rfl, h0⟩ := PJ_out h
  obtain ⟨v, us, rfl, h1⟩ := un_out h0
  obtain ⟨p15, rfl, h2⟩ := asP_out h1
  obtain ⟨v, us, rfl, h3⟩ := un_out h2
  obtain ⟨l16, rfl, h4⟩ := asS_out h3
  obtain ⟨v, us, rfl, h5⟩ := un_out h4
  obtain ⟨l17, rfl, h6⟩ := asS_out h5
  obtain ⟨v, us, rfl, h7⟩ := un_out h6
  obtain ⟨n18, rfl, h8⟩ := asI_out h7
  obtain ⟨rfl, h9⟩ := nl_out h8
  obtain ⟨rfl, h10⟩ := dn_out h9
  rw [show (codeAt f19.body [1, 1, 1, 1, 0, 1, 0]) = Code.loop (codeAt f19.body [1, 1, 1, 1, 0, 1, 0, 0]) by kernel_rfl]
  exact h10 D
theorem f19.L4_rule {p15 : Option Addr} {l16 : Sl} {k : Value → World → Prop} (I : Sl → Int → World → Prop) (μ : Sl → Int → World → Nat) {l17 : Sl} {n18 : Int} {w : World} (h0 : I l17 n18 w)
    (hr : ∀ (l17 : Sl) (n18 : Int) (w : World), I l17 n18 w → f19.L4 p15 l16 l17 n18 (f19.L4K p15 l16 I μ (μ l17 n18 w)) k w) : f19.L4lp p15 l16 l17 n18 k w := by
  intro D0
  refine loop_ind (P := Tryz.prog) (fun m a w => ∃ l17 : Sl, ∃ n18 : Int, ∃ D : Nat → Value, a = fr D 48 [47, 44, 42, 41] [.pointer p15, slv l16, slv l17, .int .i64 n18] [] ∧ I l17 n18 w ∧ μ l17 n18 w = m) ?_ (μ l17 n18 w) ⟨_, _, D0, rfl, h0, rfl⟩
  rintro m a w ⟨l17, n18, D, rfl, hI, rfl⟩
  have h := hr l17 n18 w hI
  rw [← f19.L4_den D p15 l16 l17 n18 (f19.L4K p15 l16 I μ (μ l17 n18 w)) k w] at h
  refine then_mono (pc_wp Tryz.mixed f19.L4_okc h) ?_
  clear h
  intro a w h
  obtain ⟨D, us, ds, rfl, h0⟩ := PJ_out h
  obtain ⟨v, us, rfl, h1⟩ := un_out h0
  obtain ⟨p15', rfl, h2⟩ := asP_out h1
  obtain ⟨v, us, rfl, h3⟩ := un_out h2
  obtain ⟨l16', rfl, h4⟩ := asS_out h3
  obtain ⟨v, us, rfl, h5⟩ := un_out h4
  obtain ⟨l17', rfl, h6⟩ := asS_out h5
  obtain ⟨v, us, rfl, h7⟩ := un_out h6
  obtain ⟨n18', rfl, h8⟩ := asI_out h7
  obtain ⟨rfl, h9⟩ := nl_out h8
  obtain ⟨rfl, h10⟩ := dn_out h9
  obtain ⟨⟨rfl, rfl⟩, hI, hlt⟩ := h10
  exact ⟨_, hlt, _, _, D, rfl, hI, rfl⟩
theorem f19.J1_den (D : Nat → Value) (p13 : Option Addr) (l14 : Sl) (k : Value → World → Prop) (w : World) : pc Tryz.prog none (.seq none .none (.seq (some (f19.J3p k)) (.seq none .none (.block (.at (f19.L4p k)))) .none)) (codeAt f19.body [1, 1, 1]) (f19.Q2 k) D 48 [47, 44] [.pointer p13, slv l14] [] w = f19.J1 p13 l14 k w := by kernel_rfl
theorem f19.J1_okc {k : Value → World → Prop} : okC Tryz.prog none (.seq none .none (.seq (some (f19.J3p k)) (.seq none .none (.block (.at (f19.L4p k)))) .none)) (codeAt f19.body [1, 1, 1]) (f19.Q2 k) :=
  Eq.mpr (by kernel_rfl : okC Tryz.prog none (.seq none .none (.seq (some (f19.J3p k)) (.seq none .none (.block (.at (f19.L4p k)))) .none)) (codeAt f19.body [1, 1, 1]) (f19.Q2 k) = (((True) ∧ (((((True) ∧ (OKJ Tryz.prog none (f19.L4p k) (codeAt f19.body [1, 1, 1, 1, 0, 1, 0]) (f19.Q3 k)))) ∧ OKJ Tryz.prog none (f19.J3p k) (codeAt f19.body [1, 1, 1, 1, 1]) (f19.Q2 k)))))) (⟨trivial, ⟨⟨trivial, f19.L4_ok⟩, f19.J3_ok⟩⟩)
theorem f19.J1_ok {k : Value → World → Prop} : OKJ Tryz.prog none (f19.J1p k) (codeAt f19.body [1, 1, 1]) (f19.Q2 k) := by
  intro a w h
  obtain ⟨D, us, ds, rfl, h0⟩ := PJ_out h
  obtain ⟨v, us, rfl, h1⟩ := un_out h0
  obtain ⟨p13, rfl, h2⟩ := asP_out h1
  obtain ⟨v, us, rfl, h3⟩ := un_out h2
  obtain ⟨l14, rfl, h4⟩ := asS_out h3
  obtain ⟨rfl, h5⟩ := nl_out h4
  obtain ⟨rfl, h6⟩ := dn_out h5
  rw [← f19.J1_den D p13 l14 k w] at h6
  exact pc_wp Tryz.mixed f19.J1_okc h6
theorem f19.L2_next {p2 : Option Addr} {I : Sl → Int → World → Prop} {μ : Sl → Int → World → Nat} {m : Nat} {l3 : Sl} {n4 : Int} {w : World} (hI : I l3 n4 w) (hlt : μ l3 n4 w < m) : f19.L2K p2 I μ m p2 l3 n4 w := ⟨rfl, hI, hlt⟩
theorem f19.L2_den (D : Nat → Value) (p2 : Option Addr) (l3 : Sl) (n4 : Int) (Kn1 : Option Addr → Sl → Int → World → Prop) (k : Value → World → Prop) (w : World) : pc Tryz.prog none .none (codeAt f19.body [1, 1, 0, 1, 0, 0]) (Exit.then (f19.L2k Kn1) (f19.Q1 k)) D 48 [47, 44, 43] [.pointer p2, slv l3, .int .i64 n4] [] w = f19.L2 p2 l3 n4 Kn1 k w := by kernel_rfl
theorem f19.L2_okc {Kn1 : Option Addr → Sl → Int → World → Prop} {k : Value → World → Prop} : okC Tryz.prog none .none (codeAt f19.body [1, 1, 0, 1, 0, 0]) (Exit.then (f19.L2k Kn1) (f19.Q1 k)) :=
  Eq.mpr (by kernel_rfl : okC Tryz.prog none .none (codeAt f19.body [1, 1, 0, 1, 0, 0]) (Exit.then (f19.L2k Kn1) (f19.Q1 k)) = (True)) (trivial)
theorem f19.L2_ok {k : Value → World → Prop} : OKJ Tryz.prog none (f19.L2p k) (codeAt f19.body [1, 1, 0, 1, 0]) (f19.Q1 k) := by
  intro a w h
  obtain ⟨D, us, ds, rfl, h0⟩ := PJ_out h
  obtain ⟨v, us, rfl, h1⟩ := un_out h0
  obtain ⟨p2, rfl, h2⟩ := asP_out h1
  obtain ⟨v, us, rfl, h3⟩ := un_out h2
  obtain ⟨l3, rfl, h4⟩ := asS_out h3
  obtain ⟨v, us, rfl, h5⟩ := un_out h4
  obtain ⟨n4, rfl, h6⟩ := asI_out h5
  obtain ⟨rfl, h7⟩ := nl_out h6
  obtain ⟨rfl, h8⟩ := dn_out h7
  rw [show (codeAt f19.body [1, 1, 0, 1, 0]) = Code.loop (codeAt f19.body [1, 1, 0, 1, 0, 0]) by kernel_rfl]
  exact h8 D
theorem f19.L2_rule {p2 : Option Addr} {k : Value → World → Prop} (I : Sl → Int → World → Prop) (μ : Sl → Int → World → Nat) {l3 : Sl} {n4 : Int} {w : World} (h0 : I l3 n4 w)
    (hr : ∀ (l3 : Sl) (n4 : Int) (w : World), I l3 n4 w → f19.L2 p2 l3 n4 (f19.L2K p2 I μ (μ l3 n4 w)) k w) : f19.L2lp p2 l3 n4 k w := by
  intro D0
  refine loop_ind (P := Tryz.prog) (fun m a w => ∃ l3 : Sl, ∃ n4 : Int, ∃ D : Nat → Value, a = fr D 48 [47, 44, 43] [.pointer p2, slv l3, .int .i64 n4] [] ∧ I l3 n4 w ∧ μ l3 n4 w = m) ?_ (μ l3 n4 w) ⟨_, _, D0, rfl, h0, rfl⟩
  rintro m a w ⟨l3, n4, D, rfl, hI, rfl⟩
  have h := hr l3 n4 w hI
  rw [← f19.L2_den D p2 l3 n4 (f19.L2K p2 I μ (μ l3 n4 w)) k w] at h
  refine then_mono (pc_wp Tryz.mixed f19.L2_okc h) ?_
  clear h
  intro a w h
  obtain ⟨D, us, ds, rfl, h0⟩ := PJ_out h
  obtain ⟨v, us, rfl, h1⟩ := un_out h0
  obtain ⟨p2', rfl, h2⟩ := asP_out h1
  obtain ⟨v, us, rfl, h3⟩ := un_out h2
  obtain ⟨l3', rfl, h4⟩ := asS_out h3
  obtain ⟨v, us, rfl, h5⟩ := un_out h4
  obtain ⟨n4', rfl, h6⟩ := asI_out h5
  obtain ⟨rfl, h7⟩ := nl_out h6
  obtain ⟨rfl, h8⟩ := dn_out h7
  obtain ⟨rfl, hI, hlt⟩ := h8
  exact ⟨_, hlt, _, _, D, rfl, hI, rfl⟩
def f19.b (p1 : Option Addr) (k : Value → World → Prop) (w : World) : Prop :=
  f19.L2lp p1 (none, 0, 0) 0 k w
theorem f19.den (p1 : Option Addr) (k : Value → World → Prop) (w : World) : pc Tryz.prog none (.seq none .none (.seq none .none (.seq (some (f19.J1p k)) (.seq none .none (.block (.at (f19.L2p k)))) .none))) f19.body (retQ Tryz.prog [.tmp 2] k) (fun _ => undef) 48 [47] [.pointer p1] [] w = f19.b p1 k w := by kernel_rfl
theorem f19.okc {k : Value → World → Prop} : okC Tryz.prog none (.seq none .none (.seq none .none (.seq (some (f19.J1p k)) (.seq none .none (.block (.at (f19.L2p k)))) .none))) f19.body (retQ Tryz.prog [.tmp 2] k) :=
  Eq.mpr (by kernel_rfl : okC Tryz.prog none (.seq none .none (.seq none .none (.seq (some (f19.J1p k)) (.seq none .none (.block (.at (f19.L2p k)))) .none))) f19.body (retQ Tryz.prog [.tmp 2] k) = (((True) ∧ (((True) ∧ (((((True) ∧ (OKJ Tryz.prog none (f19.L2p k) (codeAt f19.body [1, 1, 0, 1, 0]) (f19.Q1 k)))) ∧ OKJ Tryz.prog none (f19.J1p k) (codeAt f19.body [1, 1, 1]) (f19.Q2 k)))))))) (⟨trivial, ⟨trivial, ⟨⟨trivial, f19.L2_ok⟩, f19.J1_ok⟩⟩⟩)
theorem f19.call {p1 : Option Addr} {k : Value → World → Prop} {w : World} (h : f19.b p1 k w) : CALL Tryz.prog 19 #[.pointer p1] k w :=
  calls_of_pc Tryz.mixed Tryz.func19 (by kernel_rfl : Tryz.f19.body = some f19.body) (Tryz.call19 _ _) (by kernel_rfl : #[.pointer p1] ++ Array.replicate (Tryz.f19.ntmps - (#[.pointer p1] : Array Value).size) undef = (FR (fun _ => undef) 48 [47] [.pointer p1]).toArray) (by kernel_rfl : Tryz.f19.results.toList = [.tmp 2]) f19.okc ((f19.den p1 k w).symm ▸ h)

/-! (*rollcall/room.Room).Modes -/
noncomputable def f12.body : Code := (Tryz.f12.body).getD .skip
def f12.J1 (s54 : ByteArray) (l55 : Sl) (k : Value → World → Prop) (w : World) : Prop :=
  AL (.cells #[.string s54] 9) (fun q56 w => APP 9 1 16 #[.string (⟨#[]⟩ : ByteArray)] ((some ⟨q56, 0, none⟩), 1, 1) l55.2.1 (fun w => cellsOfS w l55 (l55.2.1 * 1)) (fun l57 w => k (slv l57) w) w) w
def f12.J1p (k : Value → World → Prop) : Act → World → Prop := PJ 76 [70, 69] fun us ds w => un us fun v us => asStr v fun s54 => un us fun v us => asS v fun l55 => nl us (dn ds (f12.J1 s54 l55 k w))
def f12.Q1 (k : Value → World → Prop) : Exit → Act → World → Prop := (Exit.inBlock 0 (Exit.then (f12.J1p k) (retQ Tryz.prog [.tmp 4] k)))
def f12.L2k (Kn1 : Option Addr → Bool → Sl → Int → ByteArray → Sl → Int → World → Prop) : Act → World → Prop := PJ 76 [75, 74, 70, 69, 63, 62, 61] fun us ds w => un us fun v us => asP v fun p4 => un us fun v us => asB v fun b5 => un us fun v us => asStr v fun s6 => un us fun v us => asS v fun l7 => un us fun v us => asS v fun l8 => un us fun v us => asI .i64 v fun n9 => un us fun v us => asI .i64 v fun n10 => nl us (dn ds (Kn1 p4 b5 l8 n9 s6 l7 n10 w))
def f12.Q2 (Kn1 : Option Addr → Bool → Sl → Int → ByteArray → Sl → Int → World → Prop) (k : Value → World → Prop) : Exit → Act → World → Prop := (Exit.then (f12.L2k Kn1) (f12.Q1 k))
def f12.J3 (p23 : Option Addr) (b24 : Bool) (s25 : ByteArray) (l26 : Sl) (l27 : Sl) (n28 : Int) (n29 : Int) (Kn1 : Option Addr → Bool → Sl → Int → ByteArray → Sl → Int → World → Prop) (k : Value → World → Prop) (w : World) : Prop :=
  Kn1 p23 b24 l27 n28 s25 l26 (IntKind.wrap .i64 (n29 + 1)) w
def f12.J3p (Kn1 : Option Addr → Bool → Sl → Int → ByteArray → Sl → Int → World → Prop) (k : Value → World → Prop) : Act → World → Prop := PJ 76 [75, 74, 70, 69, 63, 62, 61] fun us ds w => un us fun v us => asP v fun p23 => un us fun v us => asB v fun b24 => un us fun v us => asStr v fun s25 => un us fun v us => asS v fun l26 => un us fun v us => asS v fun l27 => un us fun v us => asI .i64 v fun n28 => un us fun v us => asI .i64 v fun n29 => nl us (dn ds (f12.J3 p23 b24 s25 l26 l27 n28 n29 Kn1 k w))
def f12.Q3 (k : Value → World → Prop) : Exit → Act → World → Prop := (retQ Tryz.prog [.tmp 4] k)
def f12.L2 (p4 : Option Addr) (b5 : Bool) (l8 : Sl) (n9 : Int) (s6 : ByteArray) (l7 : Sl) (n10 : Int) (Kn1 : Option Addr → Bool → Sl → Int → ByteArray → Sl → Int → World → Prop) (k : Value → World → Prop) (w : World) : Prop :=
  brK (decide (n10 < n9)) (IX l8 n10 1 (fun a11 => LD (Value.int .u8) a11 (fun n12 w => brK (n12 == 107) (NN p4 (fun a13 => LD Value.string (Addr.add a13 5) (fun s14 w => brK (!decide ((s14 : ByteArray) = (⟨#[]⟩ : ByteArray))) (RQ (((s6.size + (⟨#[107]⟩ : ByteArray).size : Nat) : Int) ≤ 9223372036854775807) (AL (.map #[] 0) (fun q15 w => NN p4 (fun a16 => LD Value.string (Addr.add a16 5) (fun s17 w => MU (some q15) .bool (.bool true) (.string s17) (fun w => MU (some q15) .bool (.bool false) (.string (⟨#[42]⟩ : ByteArray)) (fun w => LK (some q15) .bool (.bool b5) (.string (⟨#[]⟩ : ByteArray)) (fun v18 b19 w => ∃ s20 : ByteArray, v18 = .string s20 ∧ AL (.cells #[.string s20] 9) (fun q21 w => APP 9 1 16 #[.string (⟨#[]⟩ : ByteArray)] l7 1 (fun w => cellsOfS w ((some ⟨q21, 0, none⟩), 1, 1) (1 * 1)) (fun l22 w => f12.J3 p4 b5 (s6 ++ (⟨#[107]⟩ : ByteArray)) l22 l8 n9 n10 Kn1 k w) w) w) w) w) w) w)) w)) (brK (n12 == 108) (NN p4 (fun a30 => LD (Value.int .i64) (Addr.add a30 6) (fun n31 w => brK (decide ((0 : Int) < n31)) (RQ (((s6.size + (⟨#[108]⟩ : ByteArray).size : Nat) : Int) ≤ 9223372036854775807) (brK b5 (NN p4 (fun a32 => LD (Value.int .i64) (Addr.add a32 6) (fun n33 w => CALL Tryz.prog 37 #[.int .i64 n33] (fun v34 w => ∃ s35 : ByteArray, v34 = .string s35 ∧ AL (.cells #[.string s35] 9) (fun q36 w => APP 9 1 16 #[.string (⟨#[]⟩ : ByteArray)] l7 1 (fun w => cellsOfS w ((some ⟨q36, 0, none⟩), 1, 1) (1 * 1)) (fun l37 w => f12.J3 p4 b5 (s6 ++ (⟨#[108]⟩ : ByteArray)) l37 l8 n9 n10 Kn1 k w) w) w) w) w)) (f12.J3 p4 b5 (s6 ++ (⟨#[108]⟩ : ByteArray)) l7 l8 n9 n10 Kn1 k w))) (CALL Tryz.prog 23 #[.pointer p4, .int .u8 n12] (fun v38 w => ∃ b39 : Bool, v38 = .bool b39 ∧ brK b39 (RQ (((s6.size + (Utf8.encode (IntKind.wrap .i32 n12)).size : Nat) : Int) ≤ 9223372036854775807) (f12.J3 p4 b5 (s6 ++ (Utf8.encode (IntKind.wrap .i32 n12))) l7 l8 n9 n10 Kn1 k w)) (f12.J3 p4 b5 s6 l7 l8 n9 n10 Kn1 k w)) w)) w)) (CALL Tryz.prog 23 #[.pointer p4, .int .u8 n12] (fun v40 w => ∃ b41 : Bool, v40 = .bool b41 ∧ brK b41 (RQ (((s6.size + (Utf8.encode (IntKind.wrap .i32 n12)).size : Nat) : Int) ≤ 9223372036854775807) (f12.J3 p4 b5 (s6 ++ (Utf8.encode (IntKind.wrap .i32 n12))) l7 l8 n9 n10 Kn1 k w)) (f12.J3 p4 b5 s6 l7 l8 n9 n10 Kn1 k w)) w))) w)) (brK (n12 == 108) (NN p4 (fun a42 => LD (Value.int .i64) (Addr.add a42 6) (fun n43 w => brK (decide ((0 : Int) < n43)) (RQ (((s6.size + (⟨#[108]⟩ : ByteArray).size : Nat) : Int) ≤ 9223372036854775807) (brK b5 (NN p4 (fun a44 => LD (Value.int .i64) (Addr.add a44 6) (fun n45 w => CALL Tryz.prog 37 #[.int .i64 n45] (fun v46 w => ∃ s47 : ByteArray, v46 = .string s47 ∧ AL (.cells #[.string s47] 9) (fun q48 w => APP 9 1 16 #[.string (⟨#[]⟩ : ByteArray)] l7 1 (fun w => cellsOfS w ((some ⟨q48, 0, none⟩), 1, 1) (1 * 1)) (fun l49 w => f12.J3 p4 b5 (s6 ++ (⟨#[108]⟩ : ByteArray)) l49 l8 n9 n10 Kn1 k w) w) w) w) w)) (f12.J3 p4 b5 (s6 ++ (⟨#[108]⟩ : ByteArray)) l7 l8 n9 n10 Kn1 k w))) (CALL Tryz.prog 23 #[.pointer p4, .int .u8 n12] (fun v50 w => ∃ b51 : Bool, v50 = .bool b51 ∧ brK b51 (RQ (((s6.size + (Utf8.encode (IntKind.wrap .i32 n12)).size : Nat) : Int) ≤ 9223372036854775807) (f12.J3 p4 b5 (s6 ++ (Utf8.encode (IntKind.wrap .i32 n12))) l7 l8 n9 n10 Kn1 k w)) (f12.J3 p4 b5 s6 l7 l8 n9 n10 Kn1 k w)) w)) w)) (CALL Tryz.prog 23 #[.pointer p4, .int .u8 n12] (fun v52 w => ∃ b53 : Bool, v52 = .bool b53 ∧ brK b53 (RQ (((s6.size + (Utf8.encode (IntKind.wrap .i32 n12)).size : Nat) : Int) ≤ 9223372036854775807) (f12.J3 p4 b5 (s6 ++ (Utf8.encode (IntKind.wrap .i32 n12))) l7 l8 n9 n10 Kn1 k w)) (f12.J3 p4 b5 s6 l7 l8 n9 n10 Kn1 k w)) w))) w)) (f12.J1 s6 l7 k w)
def f12.L2lp (p4 : Option Addr) (b5 : Bool) (l8 : Sl) (n9 : Int) (s6 : ByteArray) (l7 : Sl) (n10 : Int) (k : Value → World → Prop) (w : World) : Prop := ∀ D : Nat → Value, (Code.loop (codeAt f12.body [1, 1, 1, 1, 0, 1, 0, 0])).wpIn (Wd none) 0 Tryz.prog (f12.Q1 k) (fr D 76 [75, 74, 70, 69, 63, 62, 61] [.pointer p4, .bool b5, .string s6, slv l7, slv l8, .int .i64 n9, .int .i64 n10] []) w
def f12.L2p (k : Value → World → Prop) : Act → World → Prop := PJ 76 [75, 74, 70, 69, 63, 62, 61] fun us ds w => un us fun v us => asP v fun p4 => un us fun v us => asB v fun b5 => un us fun v us => asStr v fun s6 => un us fun v us => asS v fun l7 => un us fun v us => asS v fun l8 => un us fun v us => asI .i64 v fun n9 => un us fun v us => asI .i64 v fun n10 => nl us (dn ds (f12.L2lp p4 b5 l8 n9 s6 l7 n10 k w))
def f12.L2K (p4 : Option Addr) (b5 : Bool) (l8 : Sl) (n9 : Int) (I : ByteArray → Sl → Int → World → Prop) (μ : ByteArray → Sl → Int → World → Nat) (m : Nat) (p4' : Option Addr) (b5' : Bool) (l8' : Sl) (n9' : Int) (s6' : ByteArray) (l7' : Sl) (n10' : Int) (w : World) : Prop := (p4' = p4 ∧ b5' = b5 ∧ l8' = l8 ∧ n9' = n9) ∧ I s6' l7' n10' w ∧ μ s6' l7' n10' w < m
theorem f12.J3_den (D : Nat → Value) (p23 : Option Addr) (b24 : Bool) (s25 : ByteArray) (l26 : Sl) (l27 : Sl) (n28 : Int) (n29 : Int) (Kn1 : Option Addr → Bool → Sl → Int → ByteArray → Sl → Int → World → Prop) (k : Value → World → Prop) (w : World) : pc Tryz.prog none .none (codeAt f12.body [1, 1, 1, 1, 0, 1, 0, 0, 1, 1, 1]) (f12.Q2 Kn1 k) D 76 [75, 74, 70, 69, 63, 62, 61] [.pointer p23, .bool b24, .string s25, slv l26, slv l27, .int .i64 n28, .int .i64 n29] [] w = f12.J3 p23 b24 s25 l26 l27 n28 n29 Kn1 k w := by kernel_rfl
theorem f12.J3_okc {Kn1 : Option Addr → Bool → Sl → Int → ByteArray → Sl → Int → World → Prop} {k : Value → World → Prop} : okC Tryz.prog none .none (codeAt f12.body [1, 1, 1, 1, 0, 1, 0, 0, 1, 1, 1]) (f12.Q2 Kn1 k) :=
  Eq.mpr (by kernel_rfl : okC Tryz.prog none .none (codeAt f12.body [1, 1, 1, 1, 0, 1, 0, 0, 1, 1, 1]) (f12.Q2 Kn1 k) = (True)) (trivial)
theorem f12.J3_ok {Kn1 : Option Addr → Bool → Sl → Int → ByteArray → Sl → Int → World → Prop} {k : Value → World → Prop} : OKJ Tryz.prog none (f12.J3p Kn1 k) (codeAt f12.body [1, 1, 1, 1, 0, 1, 0, 0, 1, 1, 1]) (f12.Q2 Kn1 k) := by
  intro a w h
  obtain ⟨D, us, ds, rfl, h0⟩ := PJ_out h
  obtain ⟨v, us, rfl, h1⟩ := un_out h0
  obtain ⟨p23, rfl, h2⟩ := asP_out h1
  obtain ⟨v, us, rfl, h3⟩ := un_out h2
  obtain ⟨b24, rfl, h4⟩ := asB_out h3
  obtain ⟨v, us, rfl, h5⟩ := un_out h4
  obtain ⟨s25, rfl, h6⟩ := asStr_out h5
  obtain ⟨v, us, rfl, h7⟩ := un_out h6
  obtain ⟨l26, rfl, h8⟩ := asS_out h7
  obtain ⟨v, us, rfl, h9⟩ := un_out h8
  obtain ⟨l27, rfl, h10⟩ := asS_out h9
  obtain ⟨v, us, rfl, h11⟩ := un_out h10
  obtain ⟨n28, rfl, h12⟩ := asI_out h11
  obtain ⟨v, us, rfl, h13⟩ := un_out h12
  obtain ⟨n29, rfl, h14⟩ := asI_out h13
  obtain ⟨rfl, h15⟩ := nl_out h14
  obtain ⟨rfl, h16⟩ := dn_out h15
  rw [← f12.J3_den D p23 b24 s25 l26 l27 n28 n29 Kn1 k w] at h16
  exact pc_wp Tryz.mixed f12.J3_okc h16
theorem f12.J1_den (D : Nat → Value) (s54 : ByteArray) (l55 : Sl) (k : Value → World → Prop) (w : World) : pc Tryz.prog none .none (codeAt f12.body [1, 1, 1, 1, 1]) (f12.Q3 k) D 76 [70, 69] [.string s54, slv l55] [] w = f12.J1 s54 l55 k w := by kernel_rfl
theorem f12.J1_okc {k : Value → World → Prop} : okC Tryz.prog none .none (codeAt f12.body [1, 1, 1, 1, 1]) (f12.Q3 k) :=
  Eq.mpr (by kernel_rfl : okC Tryz.prog none .none (codeAt f12.body [1, 1, 1, 1, 1]) (f12.Q3 k) = (True)) (trivial)
theorem f12.J1_ok {k : Value → World → Prop} : OKJ Tryz.prog none (f12.J1p k) (codeAt f12.body [1, 1, 1, 1, 1]) (f12.Q3 k) := by
  intro a w h
  obtain ⟨D, us, ds, rfl, h0⟩ := PJ_out h
  obtain ⟨v, us, rfl, h1⟩ := un_out h0
  obtain ⟨s54, rfl, h2⟩ := asStr_out h1
  obtain ⟨v, us, rfl, h3⟩ := un_out h2
  obtain ⟨l55, rfl, h4⟩ := asS_out h3
  obtain ⟨rfl, h5⟩ := nl_out h4
  obtain ⟨rfl, h6⟩ := dn_out h5
  rw [← f12.J1_den D s54 l55 k w] at h6
  exact pc_wp Tryz.mixed f12.J1_okc h6
theorem f12.L2_next {p4 : Option Addr} {b5 : Bool} {l8 : Sl} {n9 : Int} {I : ByteArray → Sl → Int → World → Prop} {μ : ByteArray → Sl → Int → World → Nat} {m : Nat} {s6 : ByteArray} {l7 : Sl} {n10 : Int} {w : World} (hI : I s6 l7 n10 w) (hlt : μ s6 l7 n10 w < m) : f12.L2K p4 b5 l8 n9 I μ m p4 b5 l8 n9 s6 l7 n10 w := ⟨⟨rfl, rfl, rfl, rfl⟩, hI, hlt⟩
theorem f12.L2_den (D : Nat → Value) (p4 : Option Addr) (b5 : Bool) (l8 : Sl) (n9 : Int) (s6 : ByteArray) (l7 : Sl) (n10 : Int) (Kn1 : Option Addr → Bool → Sl → Int → ByteArray → Sl → Int → World → Prop) (k : Value → World → Prop) (w : World) : pc Tryz.prog none (.seq none .none (.seq none .none (.seq (some (f12.J3p Kn1 k)) .none .none))) (codeAt f12.body [1, 1, 1, 1, 0, 1, 0, 0]) (Exit.then (f12.L2k Kn1) (f12.Q1 k)) D 76 [75, 74, 70, 69, 63, 62, 61] [.pointer p4, .bool b5, .string s6, slv l7, slv l8, .int .i64 n9, .int .i64 n10] [] w = f12.L2 p4 b5 l8 n9 s6 l7 n10 Kn1 k w := by kernel_rfl
theorem f12.L2_okc {Kn1 : Option Addr → Bool → Sl → Int → ByteArray → Sl → Int → World → Prop} {k : Value → World → Prop} : okC Tryz.prog none (.seq none .none (.seq none .none (.seq (some (f12.J3p Kn1 k)) .none .none))) (codeAt f12.body [1, 1, 1, 1, 0, 1, 0, 0]) (Exit.then (f12.L2k Kn1) (f12.Q1 k)) :=
  Eq.mpr (by kernel_rfl : okC Tryz.prog none (.seq none .none (.seq none .none (.seq (some (f12.J3p Kn1 k)) .none .none))) (codeAt f12.body [1, 1, 1, 1, 0, 1, 0, 0]) (Exit.then (f12.L2k Kn1) (f12.Q1 k)) = (((True) ∧ (((True) ∧ (((True) ∧ OKJ Tryz.prog none (f12.J3p Kn1 k) (codeAt f12.body [1, 1, 1, 1, 0, 1, 0, 0, 1, 1, 1]) (f12.Q2 Kn1 k)))))))) (⟨trivial, ⟨trivial, ⟨trivial, f12.J3_ok⟩⟩⟩)
theorem f12.L2_ok {k : Value → World → Prop} : OKJ Tryz.prog none (f12.L2p k) (codeAt f12.body [1, 1, 1, 1, 0, 1, 0]) (f12.Q1 k) := by
  intro a w h
  obtain ⟨D, us, ds, rfl, h0⟩ := PJ_out h
  obtain ⟨v, us, rfl, h1⟩ := un_out h0
  obtain ⟨p4, rfl, h2⟩ := asP_out h1
  obtain ⟨v, us, rfl, h3⟩ := un_out h2
  obtain ⟨b5, rfl, h4⟩ := asB_out h3
  obtain ⟨v, us, rfl, h5⟩ := un_out h4
  obtain ⟨s6, rfl, h6⟩ := asStr_out h5
  obtain ⟨v, us, rfl, h7⟩ := un_out h6
  obtain ⟨l7, rfl, h8⟩ := asS_out h7
  obtain ⟨v, us, rfl, h9⟩ := un_out h8
  obtain ⟨l8, rfl, h10⟩ := asS_out h9
  obtain ⟨v, us, rfl, h11⟩ := un_out h10
  obtain ⟨n9, rfl, h12⟩ := asI_out h11
  obtain ⟨v, us, rfl, h13⟩ := un_out h12
  obtain ⟨n10, rfl, h14⟩ := asI_out h13
  obtain ⟨rfl, h15⟩ := nl_out h14
  obtain ⟨rfl, h16⟩ := dn_out h15
  rw [show (codeAt f12.body [1, 1, 1, 1, 0, 1, 0]) = Code.loop (codeAt f12.body [1, 1, 1, 1, 0, 1, 0, 0]) by kernel_rfl]
  exact h16 D
theorem f12.L2_rule {p4 : Option Addr} {b5 : Bool} {l8 : Sl} {n9 : Int} {k : Value → World → Prop} (I : ByteArray → Sl → Int → World → Prop) (μ : ByteArray → Sl → Int → World → Nat) {s6 : ByteArray} {l7 : Sl} {n10 : Int} {w : World} (h0 : I s6 l7 n10 w)
    (hr : ∀ (s6 : ByteArray) (l7 : Sl) (n10 : Int) (w : World), I s6 l7 n10 w → f12.L2 p4 b5 l8 n9 s6 l7 n10 (f12.L2K p4 b5 l8 n9 I μ (μ s6 l7 n10 w)) k w) : f12.L2lp p4 b5 l8 n9 s6 l7 n10 k w := by
  intro D0
  refine loop_ind (P := Tryz.prog) (fun m a w => ∃ s6 : ByteArray, ∃ l7 : Sl, ∃ n10 : Int, ∃ D : Nat → Value, a = fr D 76 [75, 74, 70, 69, 63, 62, 61] [.pointer p4, .bool b5, .string s6, slv l7, slv l8, .int .i64 n9, .int .i64 n10] [] ∧ I s6 l7 n10 w ∧ μ s6 l7 n10 w = m) ?_ (μ s6 l7 n10 w) ⟨_, _, _, D0, rfl, h0, rfl⟩
  rintro m a w ⟨s6, l7, n10, D, rfl, hI, rfl⟩
  have h := hr s6 l7 n10 w hI
  rw [← f12.L2_den D p4 b5 l8 n9 s6 l7 n10 (f12.L2K p4 b5 l8 n9 I μ (μ s6 l7 n10 w)) k w] at h
  refine then_mono (pc_wp Tryz.mixed f12.L2_okc h) ?_
  clear h
  intro a w h
  obtain ⟨D, us, ds, rfl, h0⟩ := PJ_out h
  obtain ⟨v, us, rfl, h1⟩ := un_out h0
  obtain ⟨p4', rfl, h2⟩ := asP_out h1
  obtain ⟨v, us, rfl, h3⟩ := un_out h2
  obtain ⟨b5', rfl, h4⟩ := asB_out h3
  obtain ⟨v, us, rfl, h5⟩ := un_out h4
  obtain ⟨s6', rfl, h6⟩ := asStr_out h5
  obtain ⟨v, us, rfl, h7⟩ := un_out h6
  obtain ⟨l7', rfl, h8⟩ := asS_out h7
  obtain ⟨v, us, rfl, h9⟩ := un_out h8
  obtain ⟨l8', rfl, h10⟩ := asS_out h9
  obtain ⟨v, us, rfl, h11⟩ := un_out h10
  obtain ⟨n9', rfl, h12⟩ := asI_out h11
  obtain ⟨v, us, rfl, h13⟩ := un_out h12
  obtain ⟨n10', rfl, h14⟩ := asI_out h13
  obtain ⟨rfl, h15⟩ := nl_out h14
  obtain ⟨rfl, h16⟩ := dn_out h15
  obtain ⟨⟨rfl, rfl, rfl, rfl⟩, hI, hlt⟩ := h16
  exact ⟨_, hlt, _, _, _, D, rfl, hI, rfl⟩
def f12.b (p1 : Option Addr) (b2 : Bool) (k : Value → World → Prop) (w : World) : Prop :=
  brK p1.isNone (k (slv (none, 0, 0)) w) (AL (.cells #[.int .u8 105, .int .u8 107, .int .u8 108, .int .u8 109, .int .u8 110, .int .u8 115, .int .u8 116] 5) (fun q3 w => MKS ⟨q3, 0, none⟩ (fun w => f12.L2lp p1 b2 ((some ⟨q3, 0, none⟩), 7, 7) ((7 : Nat) : Int) (⟨#[43]⟩ : ByteArray) (none, 0, 0) 0 k w) w) w)
theorem f12.den (p1 : Option Addr) (b2 : Bool) (k : Value → World → Prop) (w : World) : pc Tryz.prog none (.seq none .none (.seq none .none (.seq none .none (.seq none .none (.seq (some (f12.J1p k)) (.seq none .none (.block (.at (f12.L2p k)))) .none))))) f12.body (retQ Tryz.prog [.tmp 4] k) (fun _ => undef) 76 [75, 74] [.pointer p1, .bool b2] [] w = f12.b p1 b2 k w := by kernel_rfl
theorem f12.okc {k : Value → World → Prop} : okC Tryz.prog none (.seq none .none (.seq none .none (.seq none .none (.seq none .none (.seq (some (f12.J1p k)) (.seq none .none (.block (.at (f12.L2p k)))) .none))))) f12.body (retQ Tryz.prog [.tmp 4] k) :=
  Eq.mpr (by kernel_rfl : okC Tryz.prog none (.seq none .none (.seq none .none (.seq none .none (.seq none .none (.seq (some (f12.J1p k)) (.seq none .none (.block (.at (f12.L2p k)))) .none))))) f12.body (retQ Tryz.prog [.tmp 4] k) = (((True) ∧ (((True) ∧ (((True) ∧ (((True) ∧ (((((True) ∧ (OKJ Tryz.prog none (f12.L2p k) (codeAt f12.body [1, 1, 1, 1, 0, 1, 0]) (f12.Q1 k)))) ∧ OKJ Tryz.prog none (f12.J1p k) (codeAt f12.body [1, 1, 1, 1, 1]) (f12.Q3 k)))))))))))) (⟨trivial, ⟨trivial, ⟨trivial, ⟨trivial, ⟨⟨trivial, f12.L2_ok⟩, f12.J1_ok⟩⟩⟩⟩⟩)
theorem f12.call {p1 : Option Addr} {b2 : Bool} {k : Value → World → Prop} {w : World} (h : f12.b p1 b2 k w) : CALL Tryz.prog 12 #[.pointer p1, .bool b2] k w :=
  calls_of_pc Tryz.mixed Tryz.func12 (by kernel_rfl : Tryz.f12.body = some f12.body) (Tryz.call12 _ _) (by kernel_rfl : #[.pointer p1, .bool b2] ++ Array.replicate (Tryz.f12.ntmps - (#[.pointer p1, .bool b2] : Array Value).size) undef = (FR (fun _ => undef) 76 [75, 74] [.pointer p1, .bool b2]).toArray) (by kernel_rfl : Tryz.f12.results.toList = [.tmp 4]) f12.okc ((f12.den p1 b2 k w).symm ▸ h)
end Go.Proofs.YtlefdgplobifiaaGreatDoor
