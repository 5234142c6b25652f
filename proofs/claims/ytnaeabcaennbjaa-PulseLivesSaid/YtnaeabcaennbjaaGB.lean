/- Printed by gen2.py: the functions' bodies over the primitives of Den, in pieces. -/
import Derived.Test.YtnaeabcaennbjaaCut
import Derived.Test.YtnaeabcaennbjaaKit
namespace Go.Proofs.Ytnaeabcaennbjaa
open Go
set_option maxRecDepth 100000
set_option linter.unusedVariables false
/-! rollcall/rollcalllaw16.PulseLives -/
noncomputable def f3.body : Code := (Try.f3.body).getD .skip
def f3.J1 (k : Value → World → Prop) (ds : List Deferred) (w : World) : Prop :=
  closeD (fun w => k (.bool true) w) ds w
def f3.J1p (k : Value → World → Prop) : Act → World → Prop := PJ 77 [] fun us ds w => nl us (f3.J1 k ds w)
def f3.Q1 (k : Value → World → Prop) : Exit → Act → World → Prop := (Exit.inBlock 0 (Exit.then (f3.J1p k) (retQ Try.prog [.tmp 6] k)))
def f3.L2k (Kn1 : Sl → Int → Int → Option Addr → Int → Int → List Deferred → World → Prop) : Act → World → Prop := PJ 77 [74, 69, 68, 67, 66, 65] fun us ds w => un us fun v us => asS v fun l10 => un us fun v us => asI .i64 v fun n11 => un us fun v us => asI .i64 v fun n12 => un us fun v us => asP v fun p13 => un us fun v us => asI .i64 v fun n14 => un us fun v us => asI .i64 v fun n15 => nl us (Kn1 l10 n11 n12 p13 n14 n15 ds w)
def f3.J3 (l70 : Sl) (n71 : Int) (n72 : Int) (p73 : Option Addr) (n74 : Int) (n75 : Int) (Kn1 : Sl → Int → Int → Option Addr → Int → Int → List Deferred → World → Prop) (k : Value → World → Prop) (ds : List Deferred) (w : World) : Prop :=
  Kn1 l70 n71 n72 p73 n74 (IntKind.wrap .i64 (n75 + 1)) ds w
def f3.J3p (Kn1 : Sl → Int → Int → Option Addr → Int → Int → List Deferred → World → Prop) (k : Value → World → Prop) : Act → World → Prop := PJ 77 [74, 69, 68, 67, 66, 65] fun us ds w => un us fun v us => asS v fun l70 => un us fun v us => asI .i64 v fun n71 => un us fun v us => asI .i64 v fun n72 => un us fun v us => asP v fun p73 => un us fun v us => asI .i64 v fun n74 => un us fun v us => asI .i64 v fun n75 => nl us (f3.J3 l70 n71 n72 p73 n74 n75 Kn1 k ds w)
def f3.Q2 (Kn1 : Sl → Int → Int → Option Addr → Int → Int → List Deferred → World → Prop) (k : Value → World → Prop) : Exit → Act → World → Prop := (Exit.inBlock 1 (Exit.then (f3.J3p Kn1 k) (Exit.then (f3.L2k Kn1) (f3.Q1 k))))
def f3.J7 (l61 : Sl) (n62 : Int) (n63 : Int) (p64 : Option Addr) (n65 : Int) (n66 : Int) (n67 : Int) (q68 : Nat) (Kn1 : Sl → Int → Int → Option Addr → Int → Int → List Deferred → World → Prop) (k : Value → World → Prop) (ds : List Deferred) (w : World) : Prop :=
  LD (Value.int .i64) ⟨q68, 0, none⟩ (fun n69 w => brK (n69 != n67) (closeD (fun w => k (.bool false) w) ds w) (f3.J3 l61 n62 n63 p64 n65 n66 Kn1 k ds w)) w
def f3.J7p (Kn1 : Sl → Int → Int → Option Addr → Int → Int → List Deferred → World → Prop) (k : Value → World → Prop) : Act → World → Prop := PJ 77 [74, 69, 68, 67, 66, 65, 64, 62] fun us ds w => un us fun v us => asS v fun l61 => un us fun v us => asI .i64 v fun n62 => un us fun v us => asI .i64 v fun n63 => un us fun v us => asP v fun p64 => un us fun v us => asI .i64 v fun n65 => un us fun v us => asI .i64 v fun n66 => un us fun v us => asI .i64 v fun n67 => un us fun v us => asBox v fun q68 => nl us (f3.J7 l61 n62 n63 p64 n65 n66 n67 q68 Kn1 k ds w)
def f3.Q3 (Kn1 : Sl → Int → Int → Option Addr → Int → Int → List Deferred → World → Prop) (k : Value → World → Prop) : Exit → Act → World → Prop := (Exit.inBlock 2 (Exit.then (f3.J7p Kn1 k) (Exit.inBlock 1 (Exit.then (f3.J3p Kn1 k) (Exit.then (f3.L2k Kn1) (f3.Q1 k))))))
def f3.R8rf (l43 : Sl) (n44 : Int) (n45 : Int) (p46 : Option Addr) (n47 : Int) (n48 : Int) (n49 : Int) (q50 : Nat) (v51 : Value) (Kn1 : Sl → Int → Int → Option Addr → Int → Int → List Deferred → World → Prop) (k : Value → World → Prop) (ds : List Deferred) (w : World) : Prop := ∀ D : Nat → Value, (Code.rangeFunc (.tmp 70) #[71, 72] (codeAt f3.body [1, 1, 1, 1, 1, 1, 1, 1, 0, 1, 0, 0, 1, 0, 0, 1, 1, 1, 1, 1, 1, 1, 0, 1, 0, 0]) (codeAt f3.body [1, 1, 1, 1, 1, 1, 1, 1, 0, 1, 0, 0, 1, 0, 0, 1, 1, 1, 1, 1, 1, 1, 0, 1, 0, 1])).wpIn (Wd none) 0 Try.prog (f3.Q3 Kn1 k) (fr D 77 [74, 69, 68, 67, 66, 65, 64, 62, 6] [slv l43, .int .i64 n44, .int .i64 n45, .pointer p46, .int .i64 n47, .int .i64 n48, .int .i64 n49, .pointer (some ⟨q50, 0, none⟩), v51] ds) w
def f3.R8p (Kn1 : Sl → Int → Int → Option Addr → Int → Int → List Deferred → World → Prop) (k : Value → World → Prop) : Act → World → Prop := PJ 77 [74, 69, 68, 67, 66, 65, 64, 62, 6] fun us ds w => un us fun v us => asS v fun l43 => un us fun v us => asI .i64 v fun n44 => un us fun v us => asI .i64 v fun n45 => un us fun v us => asP v fun p46 => un us fun v us => asI .i64 v fun n47 => un us fun v us => asI .i64 v fun n48 => un us fun v us => asI .i64 v fun n49 => un us fun v us => asBox v fun q50 => un us fun v51 us => nl us (f3.R8rf l43 n44 n45 p46 n47 n48 n49 q50 v51 Kn1 k ds w)
def f3.Q4 (Kn1 : Sl → Int → Int → Option Addr → Int → Int → List Deferred → World → Prop) (k : Value → World → Prop) : Exit → Act → World → Prop := (Exit.then (f3.L2k Kn1) (f3.Q1 k))
def f3.R8A (l52 : Sl) (n53 : Int) (n54 : Int) (p55 : Option Addr) (n56 : Int) (n57 : Int) (n58 : Int) (q59 : Nat) (v60 : Value) (Kn1 : Sl → Int → Int → Option Addr → Int → Int → List Deferred → World → Prop) (k : Value → World → Prop) (ds : List Deferred) (w : World) : Prop :=
  f3.J7 l52 n53 n54 p55 n56 n57 n58 q59 Kn1 k ds w
def f3.R8b (q87 : Nat) (n88 : Int) (r : Option Nat) (q : Exit → World → Prop) (w : World) : Prop :=
  ST (Addr.add ⟨q87, 0, none⟩ 0) (.int .i64 n88) (fun w => q .normal w) w
def f3.R8bp (r : Option Nat) (q : Exit → World → Prop) : Act → World → Prop := PJ 77 [62, 60] fun us ds w => un us fun v us => asBox v fun q87 => un us fun v us => asI .i64 v fun n88 => nl us (dn ds (f3.R8b q87 n88 r q w))
def f3.R8 (q83 : Nat) (v85 : Value) (n86 : Int) (r : Option Nat) (G : (World → Prop) → World → Prop) (q : Exit → World → Prop) (w : World) : Prop :=
  G (fun w => f3.R8b q83 n86 r q w) w
def f3.R8E (l43 : Sl) (n44 : Int) (n45 : Int) (p46 : Option Addr) (n47 : Int) (n48 : Int) (n49 : Int) (q50 : Nat) (v51 : Value) (Kn1 : Sl → Int → Int → Option Addr → Int → Int → List Deferred → World → Prop) (k : Value → World → Prop) (ds : List Deferred) (rec : LoopState → Option Code → Loop) (L : Nat) (D : Nat) (w : World) : Prop :=
  (∃ l, SatL w (own Blk L (.loop (rec .ready none)) :: l) ∧ ∀ w, SatL w (own Blk L (.loop (rec .exhausted none)) :: l) → f3.R8A l43 n44 n45 p46 n47 n48 n49 q50 v51 Kn1 k ({ target := .collected D, args := #[] } :: ds) w)
def f3.J6 (l32 : Sl) (n33 : Int) (n34 : Int) (p35 : Option Addr) (n36 : Int) (n37 : Int) (n38 : Int) (Kn1 : Sl → Int → Int → Option Addr → Int → Int → List Deferred → World → Prop) (k : Value → World → Prop) (ds : List Deferred) (w : World) : Prop :=
  CALL Try.prog 11 #[.pointer p35, .int .i64 n37] (fun v39 w => ∃ v40 : Value, v39 = v40 ∧ FNIL v40 (fun b41 => brK b41 (closeD (fun w => k (.bool false) w) ds w) (AL (.cells #[.int .i64 0] 3) (fun q42 w => ST (Addr.add ⟨q42, 0, none⟩ 0) (.int .i64 0) (fun w => f3.R8rf l32 n33 n34 p35 n36 n37 n38 q42 v40 Kn1 k ds w) w) w))) w
def f3.J6p (Kn1 : Sl → Int → Int → Option Addr → Int → Int → List Deferred → World → Prop) (k : Value → World → Prop) : Act → World → Prop := PJ 77 [74, 69, 68, 67, 66, 65, 64] fun us ds w => un us fun v us => asS v fun l32 => un us fun v us => asI .i64 v fun n33 => un us fun v us => asI .i64 v fun n34 => un us fun v us => asP v fun p35 => un us fun v us => asI .i64 v fun n36 => un us fun v us => asI .i64 v fun n37 => un us fun v us => asI .i64 v fun n38 => nl us (f3.J6 l32 n33 n34 p35 n36 n37 n38 Kn1 k ds w)
def f3.J5 (l25 : Sl) (n26 : Int) (n27 : Int) (p28 : Option Addr) (n29 : Int) (n30 : Int) (n31 : Int) (Kn1 : Sl → Int → Int → Option Addr → Int → Int → List Deferred → World → Prop) (k : Value → World → Prop) (ds : List Deferred) (w : World) : Prop :=
  brK (decide ((IntKind.wrap .i64 (n26 + n27)) ≤ (IntKind.wrap .i64 (n30 - n29)))) (f3.J6 l25 n26 n27 p28 n29 n30 3 Kn1 k ds w) (f3.J6 l25 n26 n27 p28 n29 n30 n31 Kn1 k ds w)
def f3.J5p (Kn1 : Sl → Int → Int → Option Addr → Int → Int → List Deferred → World → Prop) (k : Value → World → Prop) : Act → World → Prop := PJ 77 [74, 69, 68, 67, 66, 65, 64] fun us ds w => un us fun v us => asS v fun l25 => un us fun v us => asI .i64 v fun n26 => un us fun v us => asI .i64 v fun n27 => un us fun v us => asP v fun p28 => un us fun v us => asI .i64 v fun n29 => un us fun v us => asI .i64 v fun n30 => un us fun v us => asI .i64 v fun n31 => nl us (f3.J5 l25 n26 n27 p28 n29 n30 n31 Kn1 k ds w)
def f3.J4 (l19 : Sl) (n20 : Int) (n21 : Int) (p22 : Option Addr) (n23 : Int) (n24 : Int) (Kn1 : Sl → Int → Int → Option Addr → Int → Int → List Deferred → World → Prop) (k : Value → World → Prop) (ds : List Deferred) (w : World) : Prop :=
  brK ((IntKind.wrap .i64 (n24 - n23)) == n20) (f3.J5 l19 n20 n21 p22 n23 n24 2 Kn1 k ds w) (f3.J5 l19 n20 n21 p22 n23 n24 0 Kn1 k ds w)
def f3.J4p (Kn1 : Sl → Int → Int → Option Addr → Int → Int → List Deferred → World → Prop) (k : Value → World → Prop) : Act → World → Prop := PJ 77 [74, 69, 68, 67, 66, 65] fun us ds w => un us fun v us => asS v fun l19 => un us fun v us => asI .i64 v fun n20 => un us fun v us => asI .i64 v fun n21 => un us fun v us => asP v fun p22 => un us fun v us => asI .i64 v fun n23 => un us fun v us => asI .i64 v fun n24 => nl us (f3.J4 l19 n20 n21 p22 n23 n24 Kn1 k ds w)
def f3.Q5 (k : Value → World → Prop) : Exit → Act → World → Prop := (retQ Try.prog [.tmp 6] k)
def f3.L2 (l10 : Sl) (n11 : Int) (n12 : Int) (p13 : Option Addr) (n14 : Int) (n15 : Int) (ds : List Deferred) (Kn1 : Sl → Int → Int → Option Addr → Int → Int → List Deferred → World → Prop) (k : Value → World → Prop) (w : World) : Prop :=
  brK (decide (n15 ≤ ((l10.2.1 : Nat) : Int))) (IX l10 (IntKind.wrap .i64 (n15 - 1)) 1 (fun a16 => LD Value.bool a16 (fun b17 w => brK b17 (CALL Try.prog 10 #[.pointer p13, .int .i64 3, .int .i64 n15] (fun v18 w => v18 = .tuple #[] ∧ f3.J4 l10 n11 n12 p13 n15 n15 Kn1 k ds w) w) (f3.J4 l10 n11 n12 p13 n14 n15 Kn1 k ds w)) w)) (f3.J1 k ds w)
def f3.L2lp (l10 : Sl) (n11 : Int) (n12 : Int) (p13 : Option Addr) (n14 : Int) (n15 : Int) (ds : List Deferred) (k : Value → World → Prop) (w : World) : Prop := ∀ D : Nat → Value, (Code.loop (codeAt f3.body [1, 1, 1, 1, 1, 1, 1, 1, 0, 1, 0, 0])).wpIn (Wd none) 0 Try.prog (f3.Q1 k) (fr D 77 [74, 69, 68, 67, 66, 65] [slv l10, .int .i64 n11, .int .i64 n12, .pointer p13, .int .i64 n14, .int .i64 n15] ds) w
def f3.L2p (k : Value → World → Prop) : Act → World → Prop := PJ 77 [74, 69, 68, 67, 66, 65] fun us ds w => un us fun v us => asS v fun l10 => un us fun v us => asI .i64 v fun n11 => un us fun v us => asI .i64 v fun n12 => un us fun v us => asP v fun p13 => un us fun v us => asI .i64 v fun n14 => un us fun v us => asI .i64 v fun n15 => nl us (f3.L2lp l10 n11 n12 p13 n14 n15 ds k w)
def f3.L2K (l10 : Sl) (n11 : Int) (n12 : Int) (p13 : Option Addr) (I : Int → Int → List Deferred → World → Prop) (μ : Int → Int → List Deferred → World → Nat) (m : Nat) (l10' : Sl) (n11' : Int) (n12' : Int) (p13' : Option Addr) (n14' : Int) (n15' : Int) (ds' : List Deferred) (w : World) : Prop := (l10' = l10 ∧ n11' = n11 ∧ n12' = n12 ∧ p13' = p13) ∧ I n14' n15' ds' w ∧ μ n14' n15' ds' w < m
theorem f3.R8_ok {Kn1 : Sl → Int → Int → Option Addr → Int → Int → List Deferred → World → Prop} {k : Value → World → Prop} : OKJ Try.prog none (f3.R8p Kn1 k) (codeAt f3.body [1, 1, 1, 1, 1, 1, 1, 1, 0, 1, 0, 0, 1, 0, 0, 1, 1, 1, 1, 1, 1, 1, 0, 1, 0]) (f3.Q3 Kn1 k) := by
  intro a w h
  obtain ⟨D, us, ds, rfl, h0⟩ := PJ_out h
  obtain ⟨v, us, rfl, h1⟩ := un_out h0
  obtain ⟨l43, rfl, h2⟩ := asS_out h1
  obtain ⟨v, us, rfl, h3⟩ := un_out h2
  obtain ⟨n44, rfl, h4⟩ := asI_out h3
  obtain ⟨v, us, rfl, h5⟩ := un_out h4
  obtain ⟨n45, rfl, h6⟩ := asI_out h5
  obtain ⟨v, us, rfl, h7⟩ := un_out h6
  obtain ⟨p46, rfl, h8⟩ := asP_out h7
  obtain ⟨v, us, rfl, h9⟩ := un_out h8
  obtain ⟨n47, rfl, h10⟩ := asI_out h9
  obtain ⟨v, us, rfl, h11⟩ := un_out h10
  obtain ⟨n48, rfl, h12⟩ := asI_out h11
  obtain ⟨v, us, rfl, h13⟩ := un_out h12
  obtain ⟨n49, rfl, h14⟩ := asI_out h13
  obtain ⟨v, us, rfl, h15⟩ := un_out h14
  obtain ⟨q50, rfl, h16⟩ := asBox_out h15
  obtain ⟨v51, us, rfl, h17⟩ := un_out h16
  obtain ⟨rfl, h18⟩ := nl_out h17
  rw [show (codeAt f3.body [1, 1, 1, 1, 1, 1, 1, 1, 0, 1, 0, 0, 1, 0, 0, 1, 1, 1, 1, 1, 1, 1, 0, 1, 0]) = (Code.rangeFunc (.tmp 70) #[71, 72] (codeAt f3.body [1, 1, 1, 1, 1, 1, 1, 1, 0, 1, 0, 0, 1, 0, 0, 1, 1, 1, 1, 1, 1, 1, 0, 1, 0, 0]) (codeAt f3.body [1, 1, 1, 1, 1, 1, 1, 1, 0, 1, 0, 0, 1, 0, 0, 1, 1, 1, 1, 1, 1, 1, 0, 1, 0, 1])) by kernel_rfl]
  exact h18 D
theorem f3.J3_den (D : Nat → Value) (l70 : Sl) (n71 : Int) (n72 : Int) (p73 : Option Addr) (n74 : Int) (n75 : Int) (Kn1 : Sl → Int → Int → Option Addr → Int → Int → List Deferred → World → Prop) (k : Value → World → Prop) (ds : List Deferred) (w : World) : pc Try.prog none .none (codeAt f3.body [1, 1, 1, 1, 1, 1, 1, 1, 0, 1, 0, 0, 1, 1]) (f3.Q4 Kn1 k) D 77 [74, 69, 68, 67, 66, 65] [slv l70, .int .i64 n71, .int .i64 n72, .pointer p73, .int .i64 n74, .int .i64 n75] ds w = f3.J3 l70 n71 n72 p73 n74 n75 Kn1 k ds w := by kernel_rfl
theorem f3.J3_okc {Kn1 : Sl → Int → Int → Option Addr → Int → Int → List Deferred → World → Prop} {k : Value → World → Prop} : okC Try.prog none .none (codeAt f3.body [1, 1, 1, 1, 1, 1, 1, 1, 0, 1, 0, 0, 1, 1]) (f3.Q4 Kn1 k) :=
  Eq.mpr (by kernel_rfl : okC Try.prog none .none (codeAt f3.body [1, 1, 1, 1, 1, 1, 1, 1, 0, 1, 0, 0, 1, 1]) (f3.Q4 Kn1 k) = (True)) (trivial)
theorem f3.J3_ok {Kn1 : Sl → Int → Int → Option Addr → Int → Int → List Deferred → World → Prop} {k : Value → World → Prop} : OKJ Try.prog none (f3.J3p Kn1 k) (codeAt f3.body [1, 1, 1, 1, 1, 1, 1, 1, 0, 1, 0, 0, 1, 1]) (f3.Q4 Kn1 k) := by
  intro a w h
  obtain ⟨D, us, ds, rfl, h0⟩ := PJ_out h
  obtain ⟨v, us, rfl, h1⟩ := un_out h0
  obtain ⟨l70, rfl, h2⟩ := asS_out h1
  obtain ⟨v, us, rfl, h3⟩ := un_out h2
  obtain ⟨n71, rfl, h4⟩ := asI_out h3
  obtain ⟨v, us, rfl, h5⟩ := un_out h4
  obtain ⟨n72, rfl, h6⟩ := asI_out h5
  obtain ⟨v, us, rfl, h7⟩ := un_out h6
  obtain ⟨p73, rfl, h8⟩ := asP_out h7
  obtain ⟨v, us, rfl, h9⟩ := un_out h8
  obtain ⟨n74, rfl, h10⟩ := asI_out h9
  obtain ⟨v, us, rfl, h11⟩ := un_out h10
  obtain ⟨n75, rfl, h12⟩ := asI_out h11
  obtain ⟨rfl, h13⟩ := nl_out h12
  rw [← f3.J3_den D l70 n71 n72 p73 n74 n75 Kn1 k ds w] at h13
  exact pc_wp Try.mixed f3.J3_okc h13
theorem f3.J7_den (D : Nat → Value) (l61 : Sl) (n62 : Int) (n63 : Int) (p64 : Option Addr) (n65 : Int) (n66 : Int) (n67 : Int) (q68 : Nat) (Kn1 : Sl → Int → Int → Option Addr → Int → Int → List Deferred → World → Prop) (k : Value → World → Prop) (ds : List Deferred) (w : World) : pc Try.prog none .none (codeAt f3.body [1, 1, 1, 1, 1, 1, 1, 1, 0, 1, 0, 0, 1, 0, 0, 1, 1, 1, 1, 1, 1, 1, 1]) (f3.Q2 Kn1 k) D 77 [74, 69, 68, 67, 66, 65, 64, 62] [slv l61, .int .i64 n62, .int .i64 n63, .pointer p64, .int .i64 n65, .int .i64 n66, .int .i64 n67, .pointer (some ⟨q68, 0, none⟩)] ds w = f3.J7 l61 n62 n63 p64 n65 n66 n67 q68 Kn1 k ds w := by kernel_rfl
theorem f3.J7_okc {Kn1 : Sl → Int → Int → Option Addr → Int → Int → List Deferred → World → Prop} {k : Value → World → Prop} : okC Try.prog none .none (codeAt f3.body [1, 1, 1, 1, 1, 1, 1, 1, 0, 1, 0, 0, 1, 0, 0, 1, 1, 1, 1, 1, 1, 1, 1]) (f3.Q2 Kn1 k) :=
  Eq.mpr (by kernel_rfl : okC Try.prog none .none (codeAt f3.body [1, 1, 1, 1, 1, 1, 1, 1, 0, 1, 0, 0, 1, 0, 0, 1, 1, 1, 1, 1, 1, 1, 1]) (f3.Q2 Kn1 k) = (True)) (trivial)
theorem f3.J7_ok {Kn1 : Sl → Int → Int → Option Addr → Int → Int → List Deferred → World → Prop} {k : Value → World → Prop} : OKJ Try.prog none (f3.J7p Kn1 k) (codeAt f3.body [1, 1, 1, 1, 1, 1, 1, 1, 0, 1, 0, 0, 1, 0, 0, 1, 1, 1, 1, 1, 1, 1, 1]) (f3.Q2 Kn1 k) := by
  intro a w h
  obtain ⟨D, us, ds, rfl, h0⟩ := PJ_out h
  obtain ⟨v, us, rfl, h1⟩ := un_out h0
  obtain ⟨l61, rfl, h2⟩ := asS_out h1
  obtain ⟨v, us, rfl, h3⟩ := un_out h2
  obtain ⟨n62, rfl, h4⟩ := asI_out h3
  obtain ⟨v, us, rfl, h5⟩ := un_out h4
  obtain ⟨n63, rfl, h6⟩ := asI_out h5
  obtain ⟨v, us, rfl, h7⟩ := un_out h6
  obtain ⟨p64, rfl, h8⟩ := asP_out h7
  obtain ⟨v, us, rfl, h9⟩ := un_out h8
  obtain ⟨n65, rfl, h10⟩ := asI_out h9
  obtain ⟨v, us, rfl, h11⟩ := un_out h10
  obtain ⟨n66, rfl, h12⟩ := asI_out h11
  obtain ⟨v, us, rfl, h13⟩ := un_out h12
  obtain ⟨n67, rfl, h14⟩ := asI_out h13
  obtain ⟨v, us, rfl, h15⟩ := un_out h14
  obtain ⟨q68, rfl, h16⟩ := asBox_out h15
  obtain ⟨rfl, h17⟩ := nl_out h16
  rw [← f3.J7_den D l61 n62 n63 p64 n65 n66 n67 q68 Kn1 k ds w] at h17
  exact pc_wp Try.mixed f3.J7_okc h17
theorem f3.R8A_den (D : Nat → Value) (l52 : Sl) (n53 : Int) (n54 : Int) (p55 : Option Addr) (n56 : Int) (n57 : Int) (n58 : Int) (q59 : Nat) (v60 : Value) (Kn1 : Sl → Int → Int → Option Addr → Int → Int → List Deferred → World → Prop) (k : Value → World → Prop) (ds : List Deferred) (w : World) : spK (FR D 77 [74, 69, 68, 67, 66, 65, 64, 62, 6] [slv l52, .int .i64 n53, .int .i64 n54, .pointer p55, .int .i64 n56, .int .i64 n57, .int .i64 n58, .pointer (some ⟨q59, 0, none⟩), v60]) (fun l => (f3.Q3 Kn1 k) .normal { tmps := l.toArray, defers := ds } w) = f3.R8A l52 n53 n54 p55 n56 n57 n58 q59 v60 Kn1 k ds w := by kernel_rfl
theorem f3.R8b_den (D : Nat → Value) (q87 : Nat) (n88 : Int) (r : Option Nat) (q : Exit → World → Prop) (w : World) : pc Try.prog r .none (codeAt f3.body [1, 1, 1, 1, 1, 1, 1, 1, 0, 1, 0, 0, 1, 0, 0, 1, 1, 1, 1, 1, 1, 1, 0, 1, 0, 1]) (fun e _ w => q e w) D 77 [62, 60] [.pointer (some ⟨q87, 0, none⟩), .int .i64 n88] [] w = f3.R8b q87 n88 r q w := by kernel_rfl
theorem f3.R8b_okc {r : Option Nat} {q : Exit → World → Prop} : okC Try.prog r .none (codeAt f3.body [1, 1, 1, 1, 1, 1, 1, 1, 0, 1, 0, 0, 1, 0, 0, 1, 1, 1, 1, 1, 1, 1, 0, 1, 0, 1]) (fun e _ w => q e w) :=
  Eq.mpr (by kernel_rfl : okC Try.prog r .none (codeAt f3.body [1, 1, 1, 1, 1, 1, 1, 1, 0, 1, 0, 0, 1, 0, 0, 1, 1, 1, 1, 1, 1, 1, 0, 1, 0, 1]) (fun e _ w => q e w) = (True)) (trivial)
theorem f3.R8b_ok {r : Option Nat} {q : Exit → World → Prop} : OKJ Try.prog r (f3.R8bp r q) (codeAt f3.body [1, 1, 1, 1, 1, 1, 1, 1, 0, 1, 0, 0, 1, 0, 0, 1, 1, 1, 1, 1, 1, 1, 0, 1, 0, 1]) (fun e _ w => q e w) := by
  intro a w h
  obtain ⟨D, us, ds, rfl, h0⟩ := PJ_out h
  obtain ⟨v, us, rfl, h1⟩ := un_out h0
  obtain ⟨q87, rfl, h2⟩ := asBox_out h1
  obtain ⟨v, us, rfl, h3⟩ := un_out h2
  obtain ⟨n88, rfl, h4⟩ := asI_out h3
  obtain ⟨rfl, h5⟩ := nl_out h4
  obtain ⟨rfl, h6⟩ := dn_out h5
  rw [← f3.R8b_den D q87 n88 r q w] at h6
  exact pc_wp Try.mixed f3.R8b_okc h6
theorem f3.R8_den (D : Nat → Value) (l76 : Sl) (n77 : Int) (n78 : Int) (p79 : Option Addr) (n80 : Int) (n81 : Int) (n82 : Int) (q83 : Nat) (v84 : Value) (v85 : Value) (n86 : Int) (r : Option Nat) (G : (World → Prop) → World → Prop) (q : Exit → World → Prop) (w : World) : spK (FR D 77 [74, 69, 68, 67, 66, 65, 64, 62, 6, 5, 4] [slv l76, .int .i64 n77, .int .i64 n78, .pointer p79, .int .i64 n80, .int .i64 n81, .int .i64 n82, .pointer (some ⟨q83, 0, none⟩), v84, v85, .int .i64 n86]) (fun l => den Try.prog r (codeAt f3.body [1, 1, 1, 1, 1, 1, 1, 1, 0, 1, 0, 0, 1, 0, 0, 1, 1, 1, 1, 1, 1, 1, 0, 1, 0, 0]) (Exit.then (fun a w => G (fun w => f3.R8bp r q a w) w) (fun _ _ _ => False)) { tmps := l.toArray, defers := [] } w) = f3.R8 q83 v85 n86 r G q w := by kernel_rfl
theorem f3.R8_rule {l43 : Sl} {n44 : Int} {n45 : Int} {p46 : Option Addr} {n47 : Int} {n48 : Int} {n49 : Int} {q50 : Nat} {v51 : Value} {Kn1 : Sl → Int → Int → Option Addr → Int → Int → List Deferred → World → Prop} {k : Value → World → Prop} {w : World} {l : List HProp} {gf : Nat} {first cap : Array Value} {ds : List Deferred} (hv : v51 = .func (.func gf) first cap) (hent : ∀ args w, (callFunc gf args).run Try.prog w = .ok (.enter gf args) w) (hw : SatL w l)
    (h : ∀ (rec : LoopState → Option Code → Loop) (L D : Nat) (w : World), (∀ {v85 : Value} {n86 : Int} {K : Value → World → Prop} {w : World} {l : List HProp}, SatL w (own Blk L (.loop (rec .ready none)) :: l) → f3.R8 q50 v85 n86 (some L) (BG L rec) (rdE L rec K) w → YLD Try.prog L #[v85, .int .i64 n86] K w) → SatL w (own Blk L (.loop (rec .ready none)) :: own Blk D (.deferred (some [])) :: l) → CALL Try.prog gf (first.toList ++ [Value.func (.yield L) #[] #[]] ++ cap.toList).toArray (fun _ w => f3.R8E l43 n44 n45 p46 n47 n48 n49 q50 v51 Kn1 k ds rec L D w) w) :
    f3.R8rf l43 n44 n45 p46 n47 n48 n49 q50 v51 Kn1 k ds w := by
  subst hv
  intro D0
  refine RF_o rfl hent hw fun fn L D w1 h1 => ?_
  refine CALL.mono (h (recO fn _ _ _ _ D) L D w1 ?_ h1) ?_
  · intro v85 n86 K w l hw h
    refine YLD_r (t := (FR D0 77 [74, 69, 68, 67, 66, 65, 64, 62, 6, 5, 4] [slv l43, .int .i64 n44, .int .i64 n45, .pointer p46, .int .i64 n47, .int .i64 n48, .int .i64 n49, .pointer (some ⟨q50, 0, none⟩), .func (.func gf) first cap, v85, .int .i64 n86]).toArray) hw rfl (by kernel_rfl) (round_ofP Try.mixed (f3.R8b_ok (r := some L)) ?_)
    rw [← f3.R8_den D0 l43 n44 n45 p46 n47 n48 n49 q50 _ v85 n86, spK_eq] at h
    exact h
  · rintro _ w2 h2
    unfold f3.R8E at h2
    rcases h2 with ⟨l2, h3, h4⟩
    · exact .inl ⟨l2, h3, fun w' h5 => by have h6 := h4 w' h5; rw [← f3.R8A_den D0 l43 n44 n45 p46 n47 n48 n49 q50 _ Kn1 k ({ target := .collected D, args := #[] } :: ds), spK_eq] at h6; exact h6⟩
theorem f3.J6_den (D : Nat → Value) (l32 : Sl) (n33 : Int) (n34 : Int) (p35 : Option Addr) (n36 : Int) (n37 : Int) (n38 : Int) (Kn1 : Sl → Int → Int → Option Addr → Int → Int → List Deferred → World → Prop) (k : Value → World → Prop) (ds : List Deferred) (w : World) : pc Try.prog none (.seq none .none (.seq none .none (.seq none .none (.seq (some (f3.J7p Kn1 k)) (.seq none .none (.block (.at (f3.R8p Kn1 k)))) .none)))) (codeAt f3.body [1, 1, 1, 1, 1, 1, 1, 1, 0, 1, 0, 0, 1, 0, 0, 1, 1, 1, 1]) (f3.Q2 Kn1 k) D 77 [74, 69, 68, 67, 66, 65, 64] [slv l32, .int .i64 n33, .int .i64 n34, .pointer p35, .int .i64 n36, .int .i64 n37, .int .i64 n38] ds w = f3.J6 l32 n33 n34 p35 n36 n37 n38 Kn1 k ds w := by kernel_rfl
theorem f3.J6_okc {Kn1 : Sl → Int → Int → Option Addr → Int → Int → List Deferred → World → Prop} {k : Value → World → Prop} : okC Try.prog none (.seq none .none (.seq none .none (.seq none .none (.seq (some (f3.J7p Kn1 k)) (.seq none .none (.block (.at (f3.R8p Kn1 k)))) .none)))) (codeAt f3.body [1, 1, 1, 1, 1, 1, 1, 1, 0, 1, 0, 0, 1, 0, 0, 1, 1, 1, 1]) (f3.Q2 Kn1 k) :=
  Eq.mpr (by kernel_rfl : okC Try.prog none (.seq none .none (.seq none .none (.seq none .none (.seq (some (f3.J7p Kn1 k)) (.seq none .none (.block (.at (f3.R8p Kn1 k)))) .none)))) (codeAt f3.body [1, 1, 1, 1, 1, 1, 1, 1, 0, 1, 0, 0, 1, 0, 0, 1, 1, 1, 1]) (f3.Q2 Kn1 k) = (((True) ∧ (((True) ∧ (((True) ∧ (((((True) ∧ (OKJ Try.prog none (f3.R8p Kn1 k) (codeAt f3.body [1, 1, 1, 1, 1, 1, 1, 1, 0, 1, 0, 0, 1, 0, 0, 1, 1, 1, 1, 1, 1, 1, 0, 1, 0]) (f3.Q3 Kn1 k)))) ∧ OKJ Try.prog none (f3.J7p Kn1 k) (codeAt f3.body [1, 1, 1, 1, 1, 1, 1, 1, 0, 1, 0, 0, 1, 0, 0, 1, 1, 1, 1, 1, 1, 1, 1]) (f3.Q2 Kn1 k)))))))))) (⟨trivial, ⟨trivial, ⟨trivial, ⟨⟨trivial, f3.R8_ok⟩, f3.J7_ok⟩⟩⟩⟩)
theorem f3.J6_ok {Kn1 : Sl → Int → Int → Option Addr → Int → Int → List Deferred → World → Prop} {k : Value → World → Prop} : OKJ Try.prog none (f3.J6p Kn1 k) (codeAt f3.body [1, 1, 1, 1, 1, 1, 1, 1, 0, 1, 0, 0, 1, 0, 0, 1, 1, 1, 1]) (f3.Q2 Kn1 k) := by
  intro a w h
  obtain ⟨D, us, ds, rfl, h0⟩ := PJ_out h
  obtain ⟨v, us, rfl, h1⟩ := un_out h0
  obtain ⟨l32, rfl, h2⟩ := asS_out h1
  obtain ⟨v, us, rfl, h3⟩ := un_out h2
  obtain ⟨n33, rfl, h4⟩ := asI_out h3
  obtain ⟨v, us, rfl, h5⟩ := un_out h4
  obtain ⟨n34, rfl, h6⟩ := asI_out h5
  obtain ⟨v, us, rfl, h7⟩ := un_out h6
  obtain ⟨p35, rfl, h8⟩ := asP_out h7
  obtain ⟨v, us, rfl, h9⟩ := un_out h8
  obtain ⟨n36, rfl, h10⟩ := asI_out h9
  obtain ⟨v, us, rfl, h11⟩ := un_out h10
  obtain ⟨n37, rfl, h12⟩ := asI_out h11
  obtain ⟨v, us, rfl, h13⟩ := un_out h12
  obtain ⟨n38, rfl, h14⟩ := asI_out h13
  obtain ⟨rfl, h15⟩ := nl_out h14
  rw [← f3.J6_den D l32 n33 n34 p35 n36 n37 n38 Kn1 k ds w] at h15
  exact pc_wp Try.mixed f3.J6_okc h15
theorem f3.J5_den (D : Nat → Value) (l25 : Sl) (n26 : Int) (n27 : Int) (p28 : Option Addr) (n29 : Int) (n30 : Int) (n31 : Int) (Kn1 : Sl → Int → Int → Option Addr → Int → Int → List Deferred → World → Prop) (k : Value → World → Prop) (ds : List Deferred) (w : World) : pc Try.prog none (.seq (some (f3.J6p Kn1 k)) .none .none) (codeAt f3.body [1, 1, 1, 1, 1, 1, 1, 1, 0, 1, 0, 0, 1, 0, 0, 1, 1, 1]) (f3.Q2 Kn1 k) D 77 [74, 69, 68, 67, 66, 65, 64] [slv l25, .int .i64 n26, .int .i64 n27, .pointer p28, .int .i64 n29, .int .i64 n30, .int .i64 n31] ds w = f3.J5 l25 n26 n27 p28 n29 n30 n31 Kn1 k ds w := by kernel_rfl
theorem f3.J5_okc {Kn1 : Sl → Int → Int → Option Addr → Int → Int → List Deferred → World → Prop} {k : Value → World → Prop} : okC Try.prog none (.seq (some (f3.J6p Kn1 k)) .none .none) (codeAt f3.body [1, 1, 1, 1, 1, 1, 1, 1, 0, 1, 0, 0, 1, 0, 0, 1, 1, 1]) (f3.Q2 Kn1 k) :=
  Eq.mpr (by kernel_rfl : okC Try.prog none (.seq (some (f3.J6p Kn1 k)) .none .none) (codeAt f3.body [1, 1, 1, 1, 1, 1, 1, 1, 0, 1, 0, 0, 1, 0, 0, 1, 1, 1]) (f3.Q2 Kn1 k) = (((True) ∧ OKJ Try.prog none (f3.J6p Kn1 k) (codeAt f3.body [1, 1, 1, 1, 1, 1, 1, 1, 0, 1, 0, 0, 1, 0, 0, 1, 1, 1, 1]) (f3.Q2 Kn1 k)))) (⟨trivial, f3.J6_ok⟩)
theorem f3.J5_ok {Kn1 : Sl → Int → Int → Option Addr → Int → Int → List Deferred → World → Prop} {k : Value → World → Prop} : OKJ Try.prog none (f3.J5p Kn1 k) (codeAt f3.body [1, 1, 1, 1, 1, 1, 1, 1, 0, 1, 0, 0, 1, 0, 0, 1, 1, 1]) (f3.Q2 Kn1 k) := by
  intro a w h
  obtain ⟨D, us, ds, rfl, h0⟩ := PJ_out h
  obtain ⟨v, us, rfl, h1⟩ := un_out h0
  obtain ⟨l25, rfl, h2⟩ := asS_out h1
  obtain ⟨v, us, rfl, h3⟩ := un_out h2
  obtain ⟨n26, rfl, h4⟩ := asI_out h3
  obtain ⟨v, us, rfl, h5⟩ := un_out h4
  obtain ⟨n27, rfl, h6⟩ := asI_out h5
  obtain ⟨v, us, rfl, h7⟩ := un_out h6
  obtain ⟨p28, rfl, h8⟩ := asP_out h7
  obtain ⟨v, us, rfl, h9⟩ := un_out h8
  obtain ⟨n29, rfl, h10⟩ := asI_out h9
  obtain ⟨v, us, rfl, h11⟩ := un_out h10
  obtain ⟨n30, rfl, h12⟩ := asI_out h11
  obtain ⟨v, us, rfl, h13⟩ := un_out h12
  obtain ⟨n31, rfl, h14⟩ := asI_out h13
  obtain ⟨rfl, h15⟩ := nl_out h14
  rw [← f3.J5_den D l25 n26 n27 p28 n29 n30 n31 Kn1 k ds w] at h15
  exact pc_wp Try.mixed f3.J5_okc h15
theorem f3.J4_den (D : Nat → Value) (l19 : Sl) (n20 : Int) (n21 : Int) (p22 : Option Addr) (n23 : Int) (n24 : Int) (Kn1 : Sl → Int → Int → Option Addr → Int → Int → List Deferred → World → Prop) (k : Value → World → Prop) (ds : List Deferred) (w : World) : pc Try.prog none (.seq none .none (.seq (some (f3.J5p Kn1 k)) .none .none)) (codeAt f3.body [1, 1, 1, 1, 1, 1, 1, 1, 0, 1, 0, 0, 1, 0, 0, 1]) (f3.Q2 Kn1 k) D 77 [74, 69, 68, 67, 66, 65] [slv l19, .int .i64 n20, .int .i64 n21, .pointer p22, .int .i64 n23, .int .i64 n24] ds w = f3.J4 l19 n20 n21 p22 n23 n24 Kn1 k ds w := by kernel_rfl
theorem f3.J4_okc {Kn1 : Sl → Int → Int → Option Addr → Int → Int → List Deferred → World → Prop} {k : Value → World → Prop} : okC Try.prog none (.seq none .none (.seq (some (f3.J5p Kn1 k)) .none .none)) (codeAt f3.body [1, 1, 1, 1, 1, 1, 1, 1, 0, 1, 0, 0, 1, 0, 0, 1]) (f3.Q2 Kn1 k) :=
  Eq.mpr (by kernel_rfl : okC Try.prog none (.seq none .none (.seq (some (f3.J5p Kn1 k)) .none .none)) (codeAt f3.body [1, 1, 1, 1, 1, 1, 1, 1, 0, 1, 0, 0, 1, 0, 0, 1]) (f3.Q2 Kn1 k) = (((True) ∧ (((True) ∧ OKJ Try.prog none (f3.J5p Kn1 k) (codeAt f3.body [1, 1, 1, 1, 1, 1, 1, 1, 0, 1, 0, 0, 1, 0, 0, 1, 1, 1]) (f3.Q2 Kn1 k)))))) (⟨trivial, ⟨trivial, f3.J5_ok⟩⟩)
theorem f3.J4_ok {Kn1 : Sl → Int → Int → Option Addr → Int → Int → List Deferred → World → Prop} {k : Value → World → Prop} : OKJ Try.prog none (f3.J4p Kn1 k) (codeAt f3.body [1, 1, 1, 1, 1, 1, 1, 1, 0, 1, 0, 0, 1, 0, 0, 1]) (f3.Q2 Kn1 k) := by
  intro a w h
  obtain ⟨D, us, ds, rfl, h0⟩ := PJ_out h
  obtain ⟨v, us, rfl, h1⟩ := un_out h0
  obtain ⟨l19, rfl, h2⟩ := asS_out h1
  obtain ⟨v, us, rfl, h3⟩ := un_out h2
  obtain ⟨n20, rfl, h4⟩ := asI_out h3
  obtain ⟨v, us, rfl, h5⟩ := un_out h4
  obtain ⟨n21, rfl, h6⟩ := asI_out h5
  obtain ⟨v, us, rfl, h7⟩ := un_out h6
  obtain ⟨p22, rfl, h8⟩ := asP_out h7
  obtain ⟨v, us, rfl, h9⟩ := un_out h8
  obtain ⟨n23, rfl, h10⟩ := asI_out h9
  obtain ⟨v, us, rfl, h11⟩ := un_out h10
  obtain ⟨n24, rfl, h12⟩ := asI_out h11
  obtain ⟨rfl, h13⟩ := nl_out h12
  rw [← f3.J4_den D l19 n20 n21 p22 n23 n24 Kn1 k ds w] at h13
  exact pc_wp Try.mixed f3.J4_okc h13
theorem f3.J1_den (D : Nat → Value) (k : Value → World → Prop) (ds : List Deferred) (w : World) : pc Try.prog none .none (codeAt f3.body [1, 1, 1, 1, 1, 1, 1, 1, 1]) (f3.Q5 k) D 77 [] [] ds w = f3.J1 k ds w := by kernel_rfl
theorem f3.J1_okc {k : Value → World → Prop} : okC Try.prog none .none (codeAt f3.body [1, 1, 1, 1, 1, 1, 1, 1, 1]) (f3.Q5 k) :=
  Eq.mpr (by kernel_rfl : okC Try.prog none .none (codeAt f3.body [1, 1, 1, 1, 1, 1, 1, 1, 1]) (f3.Q5 k) = (True)) (trivial)
theorem f3.J1_ok {k : Value → World → Prop} : OKJ Try.prog none (f3.J1p k) (codeAt f3.body [1, 1, 1, 1, 1, 1, 1, 1, 1]) (f3.Q5 k) := by
  intro a w h
  obtain ⟨D, us, ds, rfl, h0⟩ := PJ_out h
  obtain ⟨rfl, h1⟩ := nl_out h0
  rw [← f3.J1_den D k ds w] at h1
  exact pc_wp Try.mixed f3.J1_okc h1
theorem f3.L2_next {l10 : Sl} {n11 : Int} {n12 : Int} {p13 : Option Addr} {I : Int → Int → List Deferred → World → Prop} {μ : Int → Int → List Deferred → World → Nat} {m : Nat} {n14 : Int} {n15 : Int} {ds : List Deferred} {w : World} (hI : I n14 n15 ds w) (hlt : μ n14 n15 ds w < m) : f3.L2K l10 n11 n12 p13 I μ m l10 n11 n12 p13 n14 n15 ds w := ⟨⟨rfl, rfl, rfl, rfl⟩, hI, hlt⟩
theorem f3.L2_den (D : Nat → Value) (l10 : Sl) (n11 : Int) (n12 : Int) (p13 : Option Addr) (n14 : Int) (n15 : Int) (ds : List Deferred) (Kn1 : Sl → Int → Int → Option Addr → Int → Int → List Deferred → World → Prop) (k : Value → World → Prop) (w : World) : pc Try.prog none (.seq none .none (.seq (some (f3.J3p Kn1 k)) (.block (.seq (some (f3.J4p Kn1 k)) .none .none)) .none)) (codeAt f3.body [1, 1, 1, 1, 1, 1, 1, 1, 0, 1, 0, 0]) (Exit.then (f3.L2k Kn1) (f3.Q1 k)) D 77 [74, 69, 68, 67, 66, 65] [slv l10, .int .i64 n11, .int .i64 n12, .pointer p13, .int .i64 n14, .int .i64 n15] ds w = f3.L2 l10 n11 n12 p13 n14 n15 ds Kn1 k w := by kernel_rfl
theorem f3.L2_okc {Kn1 : Sl → Int → Int → Option Addr → Int → Int → List Deferred → World → Prop} {k : Value → World → Prop} : okC Try.prog none (.seq none .none (.seq (some (f3.J3p Kn1 k)) (.block (.seq (some (f3.J4p Kn1 k)) .none .none)) .none)) (codeAt f3.body [1, 1, 1, 1, 1, 1, 1, 1, 0, 1, 0, 0]) (Exit.then (f3.L2k Kn1) (f3.Q1 k)) :=
  Eq.mpr (by kernel_rfl : okC Try.prog none (.seq none .none (.seq (some (f3.J3p Kn1 k)) (.block (.seq (some (f3.J4p Kn1 k)) .none .none)) .none)) (codeAt f3.body [1, 1, 1, 1, 1, 1, 1, 1, 0, 1, 0, 0]) (Exit.then (f3.L2k Kn1) (f3.Q1 k)) = (((True) ∧ (((((True) ∧ OKJ Try.prog none (f3.J4p Kn1 k) (codeAt f3.body [1, 1, 1, 1, 1, 1, 1, 1, 0, 1, 0, 0, 1, 0, 0, 1]) (f3.Q2 Kn1 k))) ∧ OKJ Try.prog none (f3.J3p Kn1 k) (codeAt f3.body [1, 1, 1, 1, 1, 1, 1, 1, 0, 1, 0, 0, 1, 1]) (f3.Q4 Kn1 k)))))) (⟨trivial, ⟨⟨trivial, f3.J4_ok⟩, f3.J3_ok⟩⟩)
theorem f3.L2_ok {k : Value → World → Prop} : OKJ Try.prog none (f3.L2p k) (codeAt f3.body [1, 1, 1, 1, 1, 1, 1, 1, 0, 1, 0]) (f3.Q1 k) := by
  intro a w h
  obtain ⟨D, us, ds, rfl, h0⟩ := PJ_out h
  obtain ⟨v, us, rfl, h1⟩ := un_out h0
  obtain ⟨l10, rfl, h2⟩ := asS_out h1
  obtain ⟨v, us, rfl, h3⟩ := un_out h2
  obtain ⟨n11, rfl, h4⟩ := asI_out h3
  obtain ⟨v, us, rfl, h5⟩ := un_out h4
  obtain ⟨n12, rfl, h6⟩ := asI_out h5
  obtain ⟨v, us, rfl, h7⟩ := un_out h6
  obtain ⟨p13, rfl, h8⟩ := asP_out h7
  obtain ⟨v, us, rfl, h9⟩ := un_out h8
  obtain ⟨n14, rfl, h10⟩ := asI_out h9
  obtain ⟨v, us, rfl, h11⟩ := un_out h10
  obtain ⟨n15, rfl, h12⟩ := asI_out h11
  obtain ⟨rfl, h13⟩ := nl_out h12
  rw [show (codeAt f3.body [1, 1, 1, 1, 1, 1, 1, 1, 0, 1, 0]) = Code.loop (codeAt f3.body [1, 1, 1, 1, 1, 1, 1, 1, 0, 1, 0, 0]) by kernel_rfl]
  exact h13 D
theorem f3.L2_rule {l10 : Sl} {n11 : Int} {n12 : Int} {p13 : Option Addr} {k : Value → World → Prop} (I : Int → Int → List Deferred → World → Prop) (μ : Int → Int → List Deferred → World → Nat) {n14 : Int} {n15 : Int} {ds : List Deferred} {w : World} (h0 : I n14 n15 ds w)
    (hr : ∀ (n14 : Int) (n15 : Int) (ds : List Deferred) (w : World), I n14 n15 ds w → f3.L2 l10 n11 n12 p13 n14 n15 ds (f3.L2K l10 n11 n12 p13 I μ (μ n14 n15 ds w)) k w) : f3.L2lp l10 n11 n12 p13 n14 n15 ds k w := by
  intro D0
  refine loop_ind (P := Try.prog) (fun m a w => ∃ n14 : Int, ∃ n15 : Int, ∃ ds : List Deferred, ∃ D : Nat → Value, a = fr D 77 [74, 69, 68, 67, 66, 65] [slv l10, .int .i64 n11, .int .i64 n12, .pointer p13, .int .i64 n14, .int .i64 n15] ds ∧ I n14 n15 ds w ∧ μ n14 n15 ds w = m) ?_ (μ n14 n15 ds w) ⟨_, _, _, D0, rfl, h0, rfl⟩
  rintro m a w ⟨n14, n15, ds, D, rfl, hI, rfl⟩
  have h := hr n14 n15 ds w hI
  rw [← f3.L2_den D l10 n11 n12 p13 n14 n15 ds (f3.L2K l10 n11 n12 p13 I μ (μ n14 n15 ds w)) k w] at h
  refine then_mono (pc_wp Try.mixed f3.L2_okc h) ?_
  clear h
  intro a w h
  obtain ⟨D, us, ds', rfl, h0⟩ := PJ_out h
  obtain ⟨v, us, rfl, h1⟩ := un_out h0
  obtain ⟨l10', rfl, h2⟩ := asS_out h1
  obtain ⟨v, us, rfl, h3⟩ := un_out h2
  obtain ⟨n11', rfl, h4⟩ := asI_out h3
  obtain ⟨v, us, rfl, h5⟩ := un_out h4
  obtain ⟨n12', rfl, h6⟩ := asI_out h5
  obtain ⟨v, us, rfl, h7⟩ := un_out h6
  obtain ⟨p13', rfl, h8⟩ := asP_out h7
  obtain ⟨v, us, rfl, h9⟩ := un_out h8
  obtain ⟨n14', rfl, h10⟩ := asI_out h9
  obtain ⟨v, us, rfl, h11⟩ := un_out h10
  obtain ⟨n15', rfl, h12⟩ := asI_out h11
  obtain ⟨rfl, h13⟩ := nl_out h12
  obtain ⟨⟨rfl, rfl, rfl, rfl⟩, hI, hlt⟩ := h13
  exact ⟨_, hlt, _, _, _, D, rfl, hI, rfl⟩
def f3.b (n1 : Int) (n2 : Int) (l3 : Sl) (k : Value → World → Prop) (w : World) : Prop :=
  CALL Try.prog 6 #[] (fun v4 w => ∃ b5 : Bool, v4 = .bool b5 ∧ brK (!b5) (k (.bool false) w) (brK (decide ((30 : Int) < ((l3.2.1 : Nat) : Int))) (k (.bool true) w) (RQ ((8 : Int) ≠ 0) (RQ ((8 : Int) ≠ 0) (CALL Try.prog 7 #[.agg #[.string ⟨#[]⟩, .string ⟨#[]⟩, .string ⟨#[]⟩, .string ⟨#[]⟩, .int .i64 0, .int .i64 0, .int .i64 0, .int .i64 0, .int .i64 0, .int .i64 0, .int .i64 0, .int .i64 0, .int .i64 (IntKind.wrap .i64 (1 + (Int.tmod (IntKind.wrap .i64 n1) 8))), .int .i64 (IntKind.wrap .i64 (1 + (Int.tmod (IntKind.wrap .i64 n2) 8))), .int .i64 1]] (fun v6 w => ∃ p7 : Option Addr, v6 = .pointer p7 ∧ CALL Try.prog 8 #[.pointer p7, .int .i64 3, .int .i64 0] (fun v8 w => v8 = .tuple #[] ∧ CALL Try.prog 9 #[.pointer p7, .int .i64 3, .int .i64 0] (fun v9 w => v9 = .tuple #[] ∧ f3.L2lp l3 (IntKind.wrap .i64 (1 + (Int.tmod (IntKind.wrap .i64 n1) 8))) (IntKind.wrap .i64 (1 + (Int.tmod (IntKind.wrap .i64 n2) 8))) p7 0 1 [] k w) w) w) w))))) w
theorem f3.den (n1 : Int) (n2 : Int) (l3 : Sl) (k : Value → World → Prop) (w : World) : pc Try.prog none (.seq none .none (.seq none .none (.seq none .none (.seq none .none (.seq none .none (.seq none .none (.seq none .none (.seq none .none (.seq (some (f3.J1p k)) (.seq none .none (.block (.at (f3.L2p k)))) .none))))))))) f3.body (retQ Try.prog [.tmp 6] k) (fun _ => undef) 77 [76, 75, 74] [.int .u8 n1, .int .u8 n2, slv l3] [] w = f3.b n1 n2 l3 k w := by kernel_rfl
theorem f3.okc {k : Value → World → Prop} : okC Try.prog none (.seq none .none (.seq none .none (.seq none .none (.seq none .none (.seq none .none (.seq none .none (.seq none .none (.seq none .none (.seq (some (f3.J1p k)) (.seq none .none (.block (.at (f3.L2p k)))) .none))))))))) f3.body (retQ Try.prog [.tmp 6] k) :=
  Eq.mpr (by kernel_rfl : okC Try.prog none (.seq none .none (.seq none .none (.seq none .none (.seq none .none (.seq none .none (.seq none .none (.seq none .none (.seq none .none (.seq (some (f3.J1p k)) (.seq none .none (.block (.at (f3.L2p k)))) .none))))))))) f3.body (retQ Try.prog [.tmp 6] k) = (((True) ∧ (((True) ∧ (((True) ∧ (((True) ∧ (((True) ∧ (((True) ∧ (((True) ∧ (((True) ∧ (((((True) ∧ (OKJ Try.prog none (f3.L2p k) (codeAt f3.body [1, 1, 1, 1, 1, 1, 1, 1, 0, 1, 0]) (f3.Q1 k)))) ∧ OKJ Try.prog none (f3.J1p k) (codeAt f3.body [1, 1, 1, 1, 1, 1, 1, 1, 1]) (f3.Q5 k)))))))))))))))))))) (⟨trivial, ⟨trivial, ⟨trivial, ⟨trivial, ⟨trivial, ⟨trivial, ⟨trivial, ⟨trivial, ⟨⟨trivial, f3.L2_ok⟩, f3.J1_ok⟩⟩⟩⟩⟩⟩⟩⟩⟩)
theorem f3.call {n1 : Int} {n2 : Int} {l3 : Sl} {k : Value → World → Prop} {w : World} (h : f3.b n1 n2 l3 k w) : CALL Try.prog 3 #[.int .u8 n1, .int .u8 n2, slv l3] k w :=
  calls_of_pc Try.mixed Try.func3 (by kernel_rfl : Try.f3.body = some f3.body) (Try.call3 _ _) (by kernel_rfl : #[.int .u8 n1, .int .u8 n2, slv l3] ++ Array.replicate (Try.f3.ntmps - (#[.int .u8 n1, .int .u8 n2, slv l3] : Array Value).size) undef = (FR (fun _ => undef) 77 [76, 75, 74] [.int .u8 n1, .int .u8 n2, slv l3]).toArray) (by kernel_rfl : Try.f3.results.toList = [.tmp 6]) f3.okc ((f3.den n1 n2 l3 k w).symm ▸ h)
end Go.Proofs.Ytnaeabcaennbjaa
