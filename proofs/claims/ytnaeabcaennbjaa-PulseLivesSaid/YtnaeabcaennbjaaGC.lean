/- Printed by gen2.py: the functions' bodies over the primitives of Den, in pieces. -/
import Derived.Test.YtnaeabcaennbjaaCut
import Derived.Test.YtnaeabcaennbjaaKit
namespace Go.Proofs.Ytnaeabcaennbjaa
open Go
set_option maxRecDepth 100000
set_option linter.unusedVariables false
/-! rollcall/rollcalllaw16.PulsePlays -/
noncomputable def f4.body : Code := (Try.f4.body).getD .skip
def f4.J1 (p66 : Option Addr) (p67 : Option Addr) (n68 : Int) (k : Value → World → Prop) (w : World) : Prop :=
  CALL Try.prog 17 #[.pointer p67, .int .i64 n68] (fun v69 w => ∃ l70 : Sl, v69 = slv l70 ∧ CALL Try.prog 16 #[.pointer p66, slv l70, .int .i64 n68] (fun v71 w => ∃ b72 : Bool, v71 = .bool b72 ∧ k (.bool b72) w) w) w
def f4.J1p (k : Value → World → Prop) : Act → World → Prop := PJ 182 [172, 171, 170] fun us ds w => un us fun v us => asP v fun p66 => un us fun v us => asP v fun p67 => un us fun v us => asI .i64 v fun n68 => nl us (dn ds (f4.J1 p66 p67 n68 k w))
def f4.Q1 (k : Value → World → Prop) : Exit → Act → World → Prop := (Exit.inBlock 0 (Exit.then (f4.J1p k) (retQ Try.prog [.tmp 8] k)))
def f4.L2k (Kn1 : Sl → Option Addr → Option Addr → Int → Int → World → Prop) : Act → World → Prop := PJ 182 [178, 172, 171, 170, 169] fun us ds w => un us fun v us => asS v fun l10 => un us fun v us => asP v fun p11 => un us fun v us => asP v fun p12 => un us fun v us => asI .i64 v fun n13 => un us fun v us => asI .i64 v fun n14 => nl us (dn ds (Kn1 l10 p11 p12 n13 n14 w))
def f4.J3 (l42 : Sl) (p43 : Option Addr) (p44 : Option Addr) (n45 : Int) (n46 : Int) (Kn1 : Sl → Option Addr → Option Addr → Int → Int → World → Prop) (k : Value → World → Prop) (w : World) : Prop :=
  Kn1 l42 p43 p44 n45 (IntKind.wrap .i64 (n46 + 1)) w
def f4.J3p (Kn1 : Sl → Option Addr → Option Addr → Int → Int → World → Prop) (k : Value → World → Prop) : Act → World → Prop := PJ 182 [178, 172, 171, 170, 169] fun us ds w => un us fun v us => asS v fun l42 => un us fun v us => asP v fun p43 => un us fun v us => asP v fun p44 => un us fun v us => asI .i64 v fun n45 => un us fun v us => asI .i64 v fun n46 => nl us (dn ds (f4.J3 l42 p43 p44 n45 n46 Kn1 k w))
def f4.Q2 (Kn1 : Sl → Option Addr → Option Addr → Int → Int → World → Prop) (k : Value → World → Prop) : Exit → Act → World → Prop := (Exit.inBlock 1 (Exit.then (f4.J3p Kn1 k) (Exit.then (f4.L2k Kn1) (f4.Q1 k))))
def f4.Q3 (Kn1 : Sl → Option Addr → Option Addr → Int → Int → World → Prop) (k : Value → World → Prop) : Exit → Act → World → Prop := (Exit.then (f4.L2k Kn1) (f4.Q1 k))
def f4.J4 (l25 : Sl) (p26 : Option Addr) (p27 : Option Addr) (n28 : Int) (n29 : Int) (q30 : Nat) (Kn1 : Sl → Option Addr → Option Addr → Int → Int → World → Prop) (k : Value → World → Prop) (w : World) : Prop :=
  LD (Value.int .i64) (Addr.add ⟨q30, 0, none⟩ 1) (fun n31 w => CALL Try.prog 19 #[.pointer p26, .int .i64 n31, .int .i64 n28] (fun v32 w => ∃ n33 : Int, ∃ b34 : Bool, v32 = .tuple #[.int .i64 n33, .bool b34] ∧ LD (Value.int .i64) (Addr.add ⟨q30, 0, none⟩ 1) (fun n35 w => CALL Try.prog 20 #[.pointer p27, .int .i64 n35] (fun v36 w => ∃ n37 : Int, v36 = .int .i64 n37 ∧ brK (!(b34 == (decide ((0 : Int) ≤ n37)))) (k (.bool false) w) (brK b34 (NN p27 (fun a38 => LD slv (Addr.add a38 3) (fun l39 w => IX l39 n37 4 (fun a40 => LD (Value.int .i64) (Addr.add a40 1) (fun n41 w => brK (n33 != (IntKind.wrap .i64 (n28 - n41))) (k (.bool false) w) (brK (!b34) (brK (n33 != 0) (k (.bool false) w) (f4.J3 l25 p26 p27 n28 n29 Kn1 k w)) (f4.J3 l25 p26 p27 n28 n29 Kn1 k w))) w)) w)) (brK (!b34) (brK (n33 != 0) (k (.bool false) w) (f4.J3 l25 p26 p27 n28 n29 Kn1 k w)) (f4.J3 l25 p26 p27 n28 n29 Kn1 k w)))) w) w) w) w
def f4.J4p (Kn1 : Sl → Option Addr → Option Addr → Int → Int → World → Prop) (k : Value → World → Prop) : Act → World → Prop := PJ 182 [178, 172, 171, 170, 169, 168] fun us ds w => un us fun v us => asS v fun l25 => un us fun v us => asP v fun p26 => un us fun v us => asP v fun p27 => un us fun v us => asI .i64 v fun n28 => un us fun v us => asI .i64 v fun n29 => un us fun v us => asBox v fun q30 => nl us (dn ds (f4.J4 l25 p26 p27 n28 n29 q30 Kn1 k w))
def f4.Q4 (k : Value → World → Prop) : Exit → Act → World → Prop := (retQ Try.prog [.tmp 8] k)
def f4.L2 (l10 : Sl) (p11 : Option Addr) (p12 : Option Addr) (n13 : Int) (n14 : Int) (Kn1 : Sl → Option Addr → Option Addr → Int → Int → World → Prop) (k : Value → World → Prop) (w : World) : Prop :=
  brK (decide (n14 < ((l10.2.1 : Nat) : Int))) (IX l10 n14 3 (fun a15 => LD (Value.int .i64) (Addr.add a15 0) (fun n16 w => LD (Value.int .i64) (Addr.add a15 1) (fun n17 w => LD (Value.int .i64) (Addr.add a15 2) (fun n18 w => AL (.cells #[.int .i64 0, .int .i64 0, .int .i64 0] 39) (fun q19 w => ST (Addr.add ⟨q19, 0, none⟩ 0) (.int .i64 n16) (fun w => ST (Addr.add ⟨q19, 0, none⟩ 1) (.int .i64 n17) (fun w => ST (Addr.add ⟨q19, 0, none⟩ 2) (.int .i64 n18) (fun w => LD (Value.int .i64) (Addr.add ⟨q19, 0, none⟩ 0) (fun n20 w => brK (n20 == 1) (LD (Value.int .i64) (Addr.add ⟨q19, 0, none⟩ 1) (fun n21 w => CALL Try.prog 9 #[.pointer p11, .int .i64 n21, .int .i64 n13] (fun v22 w => v22 = .tuple #[] ∧ LD (Value.int .i64) (Addr.add ⟨q19, 0, none⟩ 1) (fun n23 w => CALL Try.prog 12 #[.pointer p12, .int .i64 n23, .int .i64 n13] (fun v24 w => v24 = .tuple #[] ∧ f4.J4 l10 p11 p12 n13 n14 q19 Kn1 k w) w) w) w) w) (brK (n20 == 2) (LD (Value.int .i64) (Addr.add ⟨q19, 0, none⟩ 1) (fun n47 w => CALL Try.prog 10 #[.pointer p11, .int .i64 n47, .int .i64 n13] (fun v48 w => v48 = .tuple #[] ∧ LD (Value.int .i64) (Addr.add ⟨q19, 0, none⟩ 1) (fun n49 w => CALL Try.prog 13 #[.pointer p12, .int .i64 n49, .int .i64 n13] (fun v50 w => v50 = .tuple #[] ∧ f4.J4 l10 p11 p12 n13 n14 q19 Kn1 k w) w) w) w) w) (brK (n20 == 3) (LD (Value.int .i64) (Addr.add ⟨q19, 0, none⟩ 1) (fun n51 w => CALL Try.prog 14 #[.pointer p11, .int .i64 n51] (fun v52 w => v52 = .tuple #[] ∧ LD (Value.int .i64) (Addr.add ⟨q19, 0, none⟩ 1) (fun n53 w => CALL Try.prog 15 #[.pointer p12, .int .i64 n53] (fun v54 w => v54 = .tuple #[] ∧ f4.J4 l10 p11 p12 n13 n14 q19 Kn1 k w) w) w) w) w) (brK (n20 == 4) (LD (Value.int .i64) (Addr.add ⟨q19, 0, none⟩ 2) (fun n55 w => brK (decide ((0 : Int) ≤ n55)) (LD (Value.int .i64) (Addr.add ⟨q19, 0, none⟩ 2) (fun n56 w => brK (decide (n56 ≤ 1000000)) (LD (Value.int .i64) (Addr.add ⟨q19, 0, none⟩ 2) (fun n57 w => f4.J4 l10 p11 p12 (IntKind.wrap .i64 (n13 + n57)) n14 q19 Kn1 k w) w) (f4.J4 l10 p11 p12 n13 n14 q19 Kn1 k w)) w) (f4.J4 l10 p11 p12 n13 n14 q19 Kn1 k w)) w) (brK (n20 == 5) (CALL Try.prog 17 #[.pointer p12, .int .i64 n13] (fun v58 w => ∃ l59 : Sl, v58 = slv l59 ∧ CALL Try.prog 16 #[.pointer p11, slv l59, .int .i64 n13] (fun v60 w => ∃ b61 : Bool, v60 = .bool b61 ∧ brK (!b61) (k (.bool false) w) (f4.J4 l10 p11 p12 n13 n14 q19 Kn1 k w)) w) w) (LD (Value.int .i64) (Addr.add ⟨q19, 0, none⟩ 1) (fun n62 w => CALL Try.prog 8 #[.pointer p11, .int .i64 n62, .int .i64 n13] (fun v63 w => v63 = .tuple #[] ∧ LD (Value.int .i64) (Addr.add ⟨q19, 0, none⟩ 1) (fun n64 w => CALL Try.prog 18 #[.pointer p12, .int .i64 n64, .int .i64 n13] (fun v65 w => v65 = .tuple #[] ∧ f4.J4 l10 p11 p12 n13 n14 q19 Kn1 k w) w) w) w) w)))))) w) w) w) w) w) w) w) w)) (f4.J1 p11 p12 n13 k w)
def f4.L2lp (l10 : Sl) (p11 : Option Addr) (p12 : Option Addr) (n13 : Int) (n14 : Int) (k : Value → World → Prop) (w : World) : Prop := ∀ D : Nat → Value, (Code.loop (codeAt f4.body [1, 1, 1, 1, 1, 1, 0, 1, 0, 0])).wpIn (Wd none) 0 Try.prog (f4.Q1 k) (fr D 182 [178, 172, 171, 170, 169] [slv l10, .pointer p11, .pointer p12, .int .i64 n13, .int .i64 n14] []) w
def f4.L2p (k : Value → World → Prop) : Act → World → Prop := PJ 182 [178, 172, 171, 170, 169] fun us ds w => un us fun v us => asS v fun l10 => un us fun v us => asP v fun p11 => un us fun v us => asP v fun p12 => un us fun v us => asI .i64 v fun n13 => un us fun v us => asI .i64 v fun n14 => nl us (dn ds (f4.L2lp l10 p11 p12 n13 n14 k w))
def f4.L2K (l10 : Sl) (p11 : Option Addr) (p12 : Option Addr) (I : Int → Int → World → Prop) (μ : Int → Int → World → Nat) (m : Nat) (l10' : Sl) (p11' : Option Addr) (p12' : Option Addr) (n13' : Int) (n14' : Int) (w : World) : Prop := (l10' = l10 ∧ p11' = p11 ∧ p12' = p12) ∧ I n13' n14' w ∧ μ n13' n14' w < m
theorem f4.J3_den (D : Nat → Value) (l42 : Sl) (p43 : Option Addr) (p44 : Option Addr) (n45 : Int) (n46 : Int) (Kn1 : Sl → Option Addr → Option Addr → Int → Int → World → Prop) (k : Value → World → Prop) (w : World) : pc Try.prog none .none (codeAt f4.body [1, 1, 1, 1, 1, 1, 0, 1, 0, 0, 1, 1]) (f4.Q3 Kn1 k) D 182 [178, 172, 171, 170, 169] [slv l42, .pointer p43, .pointer p44, .int .i64 n45, .int .i64 n46] [] w = f4.J3 l42 p43 p44 n45 n46 Kn1 k w := by kernel_rfl
theorem f4.J3_okc {Kn1 : Sl → Option Addr → Option Addr → Int → Int → World → Prop} {k : Value → World → Prop} : okC Try.prog none .none (codeAt f4.body [1, 1, 1, 1, 1, 1, 0, 1, 0, 0, 1, 1]) (f4.Q3 Kn1 k) :=
  Eq.mpr (by kernel_rfl : okC Try.prog none .none (codeAt f4.body [1, 1, 1, 1, 1, 1, 0, 1, 0, 0, 1, 1]) (f4.Q3 Kn1 k) = (True)) (trivial)
theorem f4.J3_ok {Kn1 : Sl → Option Addr → Option Addr → Int → Int → World → Prop} {k : Value → World → Prop} : OKJ Try.prog none (f4.J3p Kn1 k) (codeAt f4.body [1, 1, 1, 1, 1, 1, 0, 1, 0, 0, 1, 1]) (f4.Q3 Kn1 k) := by
  intro a w h
  obtain ⟨D, us, ds, rfl, h0⟩ := PJ_out h
  obtain ⟨v, us, rfl, h1⟩ := un_out h0
  obtain ⟨l42, rfl, h2⟩ := asS_out h1
  obtain ⟨v, us, rfl, h3⟩ := un_out h2
  obtain ⟨p43, rfl, h4⟩ := asP_out h3
  obtain ⟨v, us, rfl, h5⟩ := un_out h4
  obtain ⟨p44, rfl, h6⟩ := asP_out h5
  obtain ⟨v, us, rfl, h7⟩ := un_out h6
  obtain ⟨n45, rfl, h8⟩ := asI_out h7
  obtain ⟨v, us, rfl, h9⟩ := un_out h8
  obtain ⟨n46, rfl, h10⟩ := asI_out h9
  obtain ⟨rfl, h11⟩ := nl_out h10
  obtain ⟨rfl, h12⟩ := dn_out h11
  rw [← f4.J3_den D l42 p43 p44 n45 n46 Kn1 k w] at h12
  exact pc_wp Try.mixed f4.J3_okc h12
theorem f4.J4_den (D : Nat → Value) (l25 : Sl) (p26 : Option Addr) (p27 : Option Addr) (n28 : Int) (n29 : Int) (q30 : Nat) (Kn1 : Sl → Option Addr → Option Addr → Int → Int → World → Prop) (k : Value → World → Prop) (w : World) : pc Try.prog none .none (codeAt f4.body [1, 1, 1, 1, 1, 1, 0, 1, 0, 0, 1, 0, 0, 1, 1]) (f4.Q2 Kn1 k) D 182 [178, 172, 171, 170, 169, 168] [slv l25, .pointer p26, .pointer p27, .int .i64 n28, .int .i64 n29, .pointer (some ⟨q30, 0, none⟩)] [] w = f4.J4 l25 p26 p27 n28 n29 q30 Kn1 k w := by kernel_rfl
theorem f4.J4_okc {Kn1 : Sl → Option Addr → Option Addr → Int → Int → World → Prop} {k : Value → World → Prop} : okC Try.prog none .none (codeAt f4.body [1, 1, 1, 1, 1, 1, 0, 1, 0, 0, 1, 0, 0, 1, 1]) (f4.Q2 Kn1 k) :=
  Eq.mpr (by kernel_rfl : okC Try.prog none .none (codeAt f4.body [1, 1, 1, 1, 1, 1, 0, 1, 0, 0, 1, 0, 0, 1, 1]) (f4.Q2 Kn1 k) = (True)) (trivial)
theorem f4.J4_ok {Kn1 : Sl → Option Addr → Option Addr → Int → Int → World → Prop} {k : Value → World → Prop} : OKJ Try.prog none (f4.J4p Kn1 k) (codeAt f4.body [1, 1, 1, 1, 1, 1, 0, 1, 0, 0, 1, 0, 0, 1, 1]) (f4.Q2 Kn1 k) := by
  intro a w h
  obtain ⟨D, us, ds, rfl, h0⟩ := PJ_out h
  obtain ⟨v, us, rfl, h1⟩ := un_out h0
  obtain ⟨l25, rfl, h2⟩ := asS_out h1
  obtain ⟨v, us, rfl, h3⟩ := un_out h2
  obtain ⟨p26, rfl, h4⟩ := asP_out h3
  obtain ⟨v, us, rfl, h5⟩ := un_out h4
  obtain ⟨p27, rfl, h6⟩ := asP_out h5
  obtain ⟨v, us, rfl, h7⟩ := un_out h6
  obtain ⟨n28, rfl, h8⟩ := asI_out h7
  obtain ⟨v, us, rfl, h9⟩ := un_out h8
  obtain ⟨n29, rfl, h10⟩ := asI_out h9
  obtain ⟨v, us, rfl, h11⟩ := un_out h10
  obtain ⟨q30, rfl, h12⟩ := asBox_out h11
  obtain ⟨rfl, h13⟩ := nl_out h12
  obtain ⟨rfl, h14⟩ := dn_out h13
  rw [← f4.J4_den D l25 p26 p27 n28 n29 q30 Kn1 k w] at h14
  exact pc_wp Try.mixed f4.J4_okc h14
theorem f4.J1_den (D : Nat → Value) (p66 : Option Addr) (p67 : Option Addr) (n68 : Int) (k : Value → World → Prop) (w : World) : pc Try.prog none .none (codeAt f4.body [1, 1, 1, 1, 1, 1, 1]) (f4.Q4 k) D 182 [172, 171, 170] [.pointer p66, .pointer p67, .int .i64 n68] [] w = f4.J1 p66 p67 n68 k w := by kernel_rfl
theorem f4.J1_okc {k : Value → World → Prop} : okC Try.prog none .none (codeAt f4.body [1, 1, 1, 1, 1, 1, 1]) (f4.Q4 k) :=
  Eq.mpr (by kernel_rfl : okC Try.prog none .none (codeAt f4.body [1, 1, 1, 1, 1, 1, 1]) (f4.Q4 k) = (True)) (trivial)
theorem f4.J1_ok {k : Value → World → Prop} : OKJ Try.prog none (f4.J1p k) (codeAt f4.body [1, 1, 1, 1, 1, 1, 1]) (f4.Q4 k) := by
  intro a w h
  obtain ⟨D, us, ds, rfl, h0⟩ := PJ_out h
  obtain ⟨v, us, rfl, h1⟩ := un_out h0
  obtain ⟨p66, rfl, h2⟩ := asP_out h1
  obtain ⟨v, us, rfl, h3⟩ := un_out h2
  obtain ⟨p67, rfl, h4⟩ := asP_out h3
  obtain ⟨v, us, rfl, h5⟩ := un_out h4
  obtain ⟨n68, rfl, h6⟩ := asI_out h5
  obtain ⟨rfl, h7⟩ := nl_out h6
  obtain ⟨rfl, h8⟩ := dn_out h7
  rw [← f4.J1_den D p66 p67 n68 k w] at h8
  exact pc_wp Try.mixed f4.J1_okc h8
theorem f4.L2_next {l10 : Sl} {p11 : Option Addr} {p12 : Option Addr} {I : Int → Int → World → Prop} {μ : Int → Int → World → Nat} {m : Nat} {n13 : Int} {n14 : Int} {w : World} (hI : I n13 n14 w) (hlt : μ n13 n14 w < m) : f4.L2K l10 p11 p12 I μ m l10 p11 p12 n13 n14 w := ⟨⟨rfl, rfl, rfl⟩, hI, hlt⟩
theorem f4.L2_den (D : Nat → Value) (l10 : Sl) (p11 : Option Addr) (p12 : Option Addr) (n13 : Int) (n14 : Int) (Kn1 : Sl → Option Addr → Option Addr → Int → Int → World → Prop) (k : Value → World → Prop) (w : World) : pc Try.prog none (.seq none .none (.seq (some (f4.J3p Kn1 k)) (.block (.seq none .none (.seq (some (f4.J4p Kn1 k)) .none .none))) .none)) (codeAt f4.body [1, 1, 1, 1, 1, 1, 0, 1, 0, 0]) (Exit.then (f4.L2k Kn1) (f4.Q1 k)) D 182 [178, 172, 171, 170, 169] [slv l10, .pointer p11, .pointer p12, .int .i64 n13, .int .i64 n14] [] w = f4.L2 l10 p11 p12 n13 n14 Kn1 k w := by kernel_rfl
theorem f4.L2_okc {Kn1 : Sl → Option Addr → Option Addr → Int → Int → World → Prop} {k : Value → World → Prop} : okC Try.prog none (.seq none .none (.seq (some (f4.J3p Kn1 k)) (.block (.seq none .none (.seq (some (f4.J4p Kn1 k)) .none .none))) .none)) (codeAt f4.body [1, 1, 1, 1, 1, 1, 0, 1, 0, 0]) (Exit.then (f4.L2k Kn1) (f4.Q1 k)) :=
  Eq.mpr (by kernel_rfl : okC Try.prog none (.seq none .none (.seq (some (f4.J3p Kn1 k)) (.block (.seq none .none (.seq (some (f4.J4p Kn1 k)) .none .none))) .none)) (codeAt f4.body [1, 1, 1, 1, 1, 1, 0, 1, 0, 0]) (Exit.then (f4.L2k Kn1) (f4.Q1 k)) = (((True) ∧ (((((True) ∧ (((True) ∧ OKJ Try.prog none (f4.J4p Kn1 k) (codeAt f4.body [1, 1, 1, 1, 1, 1, 0, 1, 0, 0, 1, 0, 0, 1, 1]) (f4.Q2 Kn1 k))))) ∧ OKJ Try.prog none (f4.J3p Kn1 k) (codeAt f4.body [1, 1, 1, 1, 1, 1, 0, 1, 0, 0, 1, 1]) (f4.Q3 Kn1 k)))))) (⟨trivial, ⟨⟨trivial, ⟨trivial, f4.J4_ok⟩⟩, f4.J3_ok⟩⟩)
theorem f4.L2_ok {k : Value → World → Prop} : OKJ Try.prog none (f4.L2p k) (codeAt f4.body [1, 1, 1, 1, 1, 1, 0, 1, 0]) (f4.Q1 k) := by
  intro a w h
  obtain ⟨D, us, ds, rfl, h0⟩ := PJ_out h
  obtain ⟨v, us, rfl, h1⟩ := un_out h0
  obtain ⟨l10, rfl, h2⟩ := asS_out h1
  obtain ⟨v, us, rfl, h3⟩ := un_out h2
  obtain ⟨p11, rfl, h4⟩ := asP_out h3
  obtain ⟨v, us, rfl, h5⟩ := un_out h4
  obtain ⟨p12, rfl, h6⟩ := asP_out h5
  obtain ⟨v, us, rfl, h7⟩ := un_out h6
  obtain ⟨n13, rfl, h8⟩ := asI_out h7
  obtain ⟨v, us, rfl, h9⟩ := un_out h8
  obtain ⟨n14, rfl, h10⟩ := asI_out h9
  obtain ⟨rfl, h11⟩ := nl_out h10
  obtain ⟨rfl, h12⟩ := dn_out h11
  rw [show (codeAt f4.body [1, 1, 1, 1, 1, 1, 0, 1, 0]) = Code.loop (codeAt f4.body [1, 1, 1, 1, 1, 1, 0, 1, 0, 0]) by kernel_rfl]
  exact h12 D
theorem f4.L2_rule {l10 : Sl} {p11 : Option Addr} {p12 : Option Addr} {k : Value → World → Prop} (I : Int → Int → World → Prop) (μ : Int → Int → World → Nat) {n13 : Int} {n14 : Int} {w : World} (h0 : I n13 n14 w)
    (hr : ∀ (n13 : Int) (n14 : Int) (w : World), I n13 n14 w → f4.L2 l10 p11 p12 n13 n14 (f4.L2K l10 p11 p12 I μ (μ n13 n14 w)) k w) : f4.L2lp l10 p11 p12 n13 n14 k w := by
  intro D0
  refine loop_ind (P := Try.prog) (fun m a w => ∃ n13 : Int, ∃ n14 : Int, ∃ D : Nat → Value, a = fr D 182 [178, 172, 171, 170, 169] [slv l10, .pointer p11, .pointer p12, .int .i64 n13, .int .i64 n14] [] ∧ I n13 n14 w ∧ μ n13 n14 w = m) ?_ (μ n13 n14 w) ⟨_, _, D0, rfl, h0, rfl⟩
  rintro m a w ⟨n13, n14, D, rfl, hI, rfl⟩
  have h := hr n13 n14 w hI
  rw [← f4.L2_den D l10 p11 p12 n13 n14 (f4.L2K l10 p11 p12 I μ (μ n13 n14 w)) k w] at h
  refine then_mono (pc_wp Try.mixed f4.L2_okc h) ?_
  clear h
  intro a w h
  obtain ⟨D, us, ds, rfl, h0⟩ := PJ_out h
  obtain ⟨v, us, rfl, h1⟩ := un_out h0
  obtain ⟨l10', rfl, h2⟩ := asS_out h1
  obtain ⟨v, us, rfl, h3⟩ := un_out h2
  obtain ⟨p11', rfl, h4⟩ := asP_out h3
  obtain ⟨v, us, rfl, h5⟩ := un_out h4
  obtain ⟨p12', rfl, h6⟩ := asP_out h5
  obtain ⟨v, us, rfl, h7⟩ := un_out h6
  obtain ⟨n13', rfl, h8⟩ := asI_out h7
  obtain ⟨v, us, rfl, h9⟩ := un_out h8
  obtain ⟨n14', rfl, h10⟩ := asI_out h9
  obtain ⟨rfl, h11⟩ := nl_out h10
  obtain ⟨rfl, h12⟩ := dn_out h11
  obtain ⟨⟨rfl, rfl, rfl⟩, hI, hlt⟩ := h12
  exact ⟨_, hlt, _, _, D, rfl, hI, rfl⟩
def f4.b (n1 : Int) (n2 : Int) (n3 : Int) (l4 : Sl) (k : Value → World → Prop) (w : World) : Prop :=
  CALL Try.prog 6 #[] (fun v5 w => ∃ b6 : Bool, v5 = .bool b6 ∧ brK (!b6) (k (.bool false) w) (brK (decide ((60 : Int) < ((l4.2.1 : Nat) : Int))) (k (.bool true) w) (brK (decide (n1 < 1)) (k (.bool true) w) (brK (decide (n2 < 1)) (k (.bool true) w) (brK (decide (n3 < 1)) (k (.bool true) w) (brK (decide ((1000000 : Int) < n1)) (k (.bool true) w) (brK (decide ((1000000 : Int) < n2)) (k (.bool true) w) (brK (decide ((1000000 : Int) < n3)) (k (.bool true) w) (CALL Try.prog 7 #[.agg #[.string ⟨#[]⟩, .string ⟨#[]⟩, .string ⟨#[]⟩, .string ⟨#[]⟩, .int .i64 0, .int .i64 0, .int .i64 0, .int .i64 0, .int .i64 0, .int .i64 0, .int .i64 0, .int .i64 0, .int .i64 n1, .int .i64 n2, .int .i64 n3]] (fun v7 w => ∃ p8 : Option Addr, v7 = .pointer p8 ∧ AL (.cells #[.int .i64 n1, .int .i64 n2, .int .i64 n3, slv (none, 0, 0)] 37) (fun q9 w => f4.L2lp l4 p8 (some ⟨q9, 0, none⟩) 0 0 k w) w) w))))))))) w
theorem f4.den (n1 : Int) (n2 : Int) (n3 : Int) (l4 : Sl) (k : Value → World → Prop) (w : World) : pc Try.prog none (.seq none .none (.seq none .none (.seq none .none (.seq none .none (.seq none .none (.seq none .none (.seq (some (f4.J1p k)) (.seq none .none (.block (.at (f4.L2p k)))) .none))))))) f4.body (retQ Try.prog [.tmp 8] k) (fun _ => undef) 182 [181, 180, 179, 178] [.int .i64 n1, .int .i64 n2, .int .i64 n3, slv l4] [] w = f4.b n1 n2 n3 l4 k w := by kernel_rfl
theorem f4.okc {k : Value → World → Prop} : okC Try.prog none (.seq none .none (.seq none .none (.seq none .none (.seq none .none (.seq none .none (.seq none .none (.seq (some (f4.J1p k)) (.seq none .none (.block (.at (f4.L2p k)))) .none))))))) f4.body (retQ Try.prog [.tmp 8] k) :=
  Eq.mpr (by kernel_rfl : okC Try.prog none (.seq none .none (.seq none .none (.seq none .none (.seq none .none (.seq none .none (.seq none .none (.seq (some (f4.J1p k)) (.seq none .none (.block (.at (f4.L2p k)))) .none))))))) f4.body (retQ Try.prog [.tmp 8] k) = (((True) ∧ (((True) ∧ (((True) ∧ (((True) ∧ (((True) ∧ (((True) ∧ (((((True) ∧ (OKJ Try.prog none (f4.L2p k) (codeAt f4.body [1, 1, 1, 1, 1, 1, 0, 1, 0]) (f4.Q1 k)))) ∧ OKJ Try.prog none (f4.J1p k) (codeAt f4.body [1, 1, 1, 1, 1, 1, 1]) (f4.Q4 k)))))))))))))))) (⟨trivial, ⟨trivial, ⟨trivial, ⟨trivial, ⟨trivial, ⟨trivial, ⟨⟨trivial, f4.L2_ok⟩, f4.J1_ok⟩⟩⟩⟩⟩⟩⟩)
theorem f4.call {n1 : Int} {n2 : Int} {n3 : Int} {l4 : Sl} {k : Value → World → Prop} {w : World} (h : f4.b n1 n2 n3 l4 k w) : CALL Try.prog 4 #[.int .i64 n1, .int .i64 n2, .int .i64 n3, slv l4] k w :=
  calls_of_pc Try.mixed Try.func4 (by kernel_rfl : Try.f4.body = some f4.body) (Try.call4 _ _) (by kernel_rfl : #[.int .i64 n1, .int .i64 n2, .int .i64 n3, slv l4] ++ Array.replicate (Try.f4.ntmps - (#[.int .i64 n1, .int .i64 n2, .int .i64 n3, slv l4] : Array Value).size) undef = (FR (fun _ => undef) 182 [181, 180, 179, 178] [.int .i64 n1, .int .i64 n2, .int .i64 n3, slv l4]).toArray) (by kernel_rfl : Try.f4.results.toList = [.tmp 8]) f4.okc ((f4.den n1 n2 n3 l4 k w).symm ▸ h)
end Go.Proofs.Ytnaeabcaennbjaa
