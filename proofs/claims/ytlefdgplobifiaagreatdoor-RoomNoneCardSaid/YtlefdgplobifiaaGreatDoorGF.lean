/- Printed by gen2.py: the functions' bodies over the primitives of Den, in pieces. -/
import Derived.Test.YtlefdgplobifiaaGreatDoorCut
import Derived.Test.YtlefdgplobifiaaGreatDoorKit
namespace Go.Proofs.YtlefdgplobifiaaGreatDoor
open Go
set_option maxRecDepth 100000
set_option linter.unusedVariables false
/-! (*rollcall/rollcallref19.Room).Modes -/
noncomputable def f22.body : Code := (Tryz.f22.body).getD .skip
def f22.J1 (s229 : ByteArray) (l230 : Sl) (k : Value → World → Prop) (w : World) : Prop :=
  IX l230 0 1 (fun a231 => ST (Addr.add a231 0) (.string s229) (fun w => k (slv l230) w) w)
def f22.J1p (k : Value → World → Prop) : Act → World → Prop := PJ 95 [89, 88] fun us ds w => un us fun v us => asStr v fun s229 => un us fun v us => asS v fun l230 => nl us (dn ds (f22.J1 s229 l230 k w))
def f22.Q1 (k : Value → World → Prop) : Exit → Act → World → Prop := (Exit.inBlock 0 (Exit.then (f22.J1p k) (retQ Tryz.prog [.tmp 4] k)))
def f22.L2k (Kn1 : Option Addr → Bool → ByteArray → Sl → Int → World → Prop) : Act → World → Prop := PJ 95 [94, 93, 89, 88, 87] fun us ds w => un us fun v us => asP v fun p4 => un us fun v us => asB v fun b5 => un us fun v us => asStr v fun s6 => un us fun v us => asS v fun l7 => un us fun v us => asI .i64 v fun n8 => nl us (dn ds (Kn1 p4 b5 s6 l7 n8 w))
def f22.J3 (p47 : Option Addr) (b48 : Bool) (s49 : ByteArray) (l50 : Sl) (n51 : Int) (Kn1 : Option Addr → Bool → ByteArray → Sl → Int → World → Prop) (k : Value → World → Prop) (w : World) : Prop :=
  Kn1 p47 b48 s49 l50 (IntKind.wrap .i64 (n51 + 1)) w
def f22.J3p (Kn1 : Option Addr → Bool → ByteArray → Sl → Int → World → Prop) (k : Value → World → Prop) : Act → World → Prop := PJ 95 [94, 93, 89, 88, 87] fun us ds w => un us fun v us => asP v fun p47 => un us fun v us => asB v fun b48 => un us fun v us => asStr v fun s49 => un us fun v us => asS v fun l50 => un us fun v us => asI .i64 v fun n51 => nl us (dn ds (f22.J3 p47 b48 s49 l50 n51 Kn1 k w))
def f22.Q2 (Kn1 : Option Addr → Bool → ByteArray → Sl → Int → World → Prop) (k : Value → World → Prop) : Exit → Act → World → Prop := (Exit.inBlock 1 (Exit.then (f22.J3p Kn1 k) (Exit.then (f22.L2k Kn1) (f22.Q1 k))))
def f22.Q3 (Kn1 : Option Addr → Bool → ByteArray → Sl → Int → World → Prop) (k : Value → World → Prop) : Exit → Act → World → Prop := (Exit.then (f22.L2k Kn1) (f22.Q1 k))
def f22.J6 (p34 : Option Addr) (b35 : Bool) (s36 : ByteArray) (l37 : Sl) (n38 : Int) (n39 : Int) (b40 : Bool) (Kn1 : Option Addr → Bool → ByteArray → Sl → Int → World → Prop) (k : Value → World → Prop) (w : World) : Prop :=
  brK b40 (brK (n39 == 108) (brK b35 (NN p34 (fun a41 => LD (Value.int .i64) (Addr.add a41 6) (fun n42 w => CALL Tryz.prog 48 #[.int .i64 n42] (fun v43 w => ∃ s44 : ByteArray, v43 = .string s44 ∧ AL (.cells #[.string s44] 9) (fun q45 w => APP 9 1 16 #[.string (⟨#[]⟩ : ByteArray)] l37 1 (fun w => cellsOfS w ((some ⟨q45, 0, none⟩), 1, 1) (1 * 1)) (fun l46 w => f22.J3 p34 b35 s36 l46 n38 Kn1 k w) w) w) w) w)) (f22.J3 p34 b35 s36 l37 n38 Kn1 k w)) (f22.J3 p34 b35 s36 l37 n38 Kn1 k w)) (f22.J3 p34 b35 s36 l37 n38 Kn1 k w)
def f22.J6p (Kn1 : Option Addr → Bool → ByteArray → Sl → Int → World → Prop) (k : Value → World → Prop) : Act → World → Prop := PJ 95 [94, 93, 89, 88, 87, 86, 85] fun us ds w => un us fun v us => asP v fun p34 => un us fun v us => asB v fun b35 => un us fun v us => asStr v fun s36 => un us fun v us => asS v fun l37 => un us fun v us => asI .i64 v fun n38 => un us fun v us => asI .u8 v fun n39 => un us fun v us => asB v fun b40 => nl us (dn ds (f22.J6 p34 b35 s36 l37 n38 n39 b40 Kn1 k w))
def f22.J5 (p25 : Option Addr) (b26 : Bool) (s27 : ByteArray) (l28 : Sl) (n29 : Int) (n30 : Int) (b31 : Bool) (Kn1 : Option Addr → Bool → ByteArray → Sl → Int → World → Prop) (k : Value → World → Prop) (w : World) : Prop :=
  brK b31 (brK (n30 == 107) (brK (!b26) (AL (.cells #[.string (⟨#[42]⟩ : ByteArray)] 9) (fun q32 w => APP 9 1 16 #[.string (⟨#[]⟩ : ByteArray)] l28 1 (fun w => cellsOfS w ((some ⟨q32, 0, none⟩), 1, 1) (1 * 1)) (fun l33 w => f22.J6 p25 b26 s27 l33 n29 n30 b31 Kn1 k w) w) w) (f22.J6 p25 b26 s27 l28 n29 n30 b31 Kn1 k w)) (f22.J6 p25 b26 s27 l28 n29 n30 b31 Kn1 k w)) (f22.J6 p25 b26 s27 l28 n29 n30 b31 Kn1 k w)
def f22.J5p (Kn1 : Option Addr → Bool → ByteArray → Sl → Int → World → Prop) (k : Value → World → Prop) : Act → World → Prop := PJ 95 [94, 93, 89, 88, 87, 86, 85] fun us ds w => un us fun v us => asP v fun p25 => un us fun v us => asB v fun b26 => un us fun v us => asStr v fun s27 => un us fun v us => asS v fun l28 => un us fun v us => asI .i64 v fun n29 => un us fun v us => asI .u8 v fun n30 => un us fun v us => asB v fun b31 => nl us (dn ds (f22.J5 p25 b26 s27 l28 n29 n30 b31 Kn1 k w))
def f22.J4 (p14 : Option Addr) (b15 : Bool) (s16 : ByteArray) (l17 : Sl) (n18 : Int) (n19 : Int) (b20 : Bool) (Kn1 : Option Addr → Bool → ByteArray → Sl → Int → World → Prop) (k : Value → World → Prop) (w : World) : Prop :=
  brK b20 (brK (n19 == 107) (brK b15 (NN p14 (fun a21 => LD Value.string (Addr.add a21 5) (fun s22 w => AL (.cells #[.string s22] 9) (fun q23 w => APP 9 1 16 #[.string (⟨#[]⟩ : ByteArray)] l17 1 (fun w => cellsOfS w ((some ⟨q23, 0, none⟩), 1, 1) (1 * 1)) (fun l24 w => f22.J5 p14 b15 s16 l24 n18 n19 b20 Kn1 k w) w) w) w)) (f22.J5 p14 b15 s16 l17 n18 n19 b20 Kn1 k w)) (f22.J5 p14 b15 s16 l17 n18 n19 b20 Kn1 k w)) (f22.J5 p14 b15 s16 l17 n18 n19 b20 Kn1 k w)
def f22.J4p (Kn1 : Option Addr → Bool → ByteArray → Sl → Int → World → Prop) (k : Value → World → Prop) : Act → World → Prop := PJ 95 [94, 93, 89, 88, 87, 86, 85] fun us ds w => un us fun v us => asP v fun p14 => un us fun v us => asB v fun b15 => un us fun v us => asStr v fun s16 => un us fun v us => asS v fun l17 => un us fun v us => asI .i64 v fun n18 => un us fun v us => asI .u8 v fun n19 => un us fun v us => asB v fun b20 => nl us (dn ds (f22.J4 p14 b15 s16 l17 n18 n19 b20 Kn1 k w))
def f22.J9 (p76 : Option Addr) (b77 : Bool) (s78 : ByteArray) (l79 : Sl) (n80 : Int) (n81 : Int) (b82 : Bool) (Kn1 : Option Addr → Bool → ByteArray → Sl → Int → World → Prop) (k : Value → World → Prop) (w : World) : Prop :=
  brK b82 (brK (n81 == 108) (brK b77 (NN p76 (fun a83 => LD (Value.int .i64) (Addr.add a83 6) (fun n84 w => CALL Tryz.prog 48 #[.int .i64 n84] (fun v85 w => ∃ s86 : ByteArray, v85 = .string s86 ∧ AL (.cells #[.string s86] 9) (fun q87 w => APP 9 1 16 #[.string (⟨#[]⟩ : ByteArray)] l79 1 (fun w => cellsOfS w ((some ⟨q87, 0, none⟩), 1, 1) (1 * 1)) (fun l88 w => f22.J3 p76 b77 s78 l88 n80 Kn1 k w) w) w) w) w)) (f22.J3 p76 b77 s78 l79 n80 Kn1 k w)) (f22.J3 p76 b77 s78 l79 n80 Kn1 k w)) (f22.J3 p76 b77 s78 l79 n80 Kn1 k w)
def f22.J9p (Kn1 : Option Addr → Bool → ByteArray → Sl → Int → World → Prop) (k : Value → World → Prop) : Act → World → Prop := PJ 95 [94, 93, 89, 88, 87, 86, 85] fun us ds w => un us fun v us => asP v fun p76 => un us fun v us => asB v fun b77 => un us fun v us => asStr v fun s78 => un us fun v us => asS v fun l79 => un us fun v us => asI .i64 v fun n80 => un us fun v us => asI .u8 v fun n81 => un us fun v us => asB v fun b82 => nl us (dn ds (f22.J9 p76 b77 s78 l79 n80 n81 b82 Kn1 k w))
def f22.J8 (p67 : Option Addr) (b68 : Bool) (s69 : ByteArray) (l70 : Sl) (n71 : Int) (n72 : Int) (b73 : Bool) (Kn1 : Option Addr → Bool → ByteArray → Sl → Int → World → Prop) (k : Value → World → Prop) (w : World) : Prop :=
  brK b73 (brK (n72 == 107) (brK (!b68) (AL (.cells #[.string (⟨#[42]⟩ : ByteArray)] 9) (fun q74 w => APP 9 1 16 #[.string (⟨#[]⟩ : ByteArray)] l70 1 (fun w => cellsOfS w ((some ⟨q74, 0, none⟩), 1, 1) (1 * 1)) (fun l75 w => f22.J9 p67 b68 s69 l75 n71 n72 b73 Kn1 k w) w) w) (f22.J9 p67 b68 s69 l70 n71 n72 b73 Kn1 k w)) (f22.J9 p67 b68 s69 l70 n71 n72 b73 Kn1 k w)) (f22.J9 p67 b68 s69 l70 n71 n72 b73 Kn1 k w)
def f22.J8p (Kn1 : Option Addr → Bool → ByteArray → Sl → Int → World → Prop) (k : Value → World → Prop) : Act → World → Prop := PJ 95 [94, 93, 89, 88, 87, 86, 85] fun us ds w => un us fun v us => asP v fun p67 => un us fun v us => asB v fun b68 => un us fun v us => asStr v fun s69 => un us fun v us => asS v fun l70 => un us fun v us => asI .i64 v fun n71 => un us fun v us => asI .u8 v fun n72 => un us fun v us => asB v fun b73 => nl us (dn ds (f22.J8 p67 b68 s69 l70 n71 n72 b73 Kn1 k w))
def f22.J7 (p56 : Option Addr) (b57 : Bool) (s58 : ByteArray) (l59 : Sl) (n60 : Int) (n61 : Int) (b62 : Bool) (Kn1 : Option Addr → Bool → ByteArray → Sl → Int → World → Prop) (k : Value → World → Prop) (w : World) : Prop :=
  brK b62 (brK (n61 == 107) (brK b57 (NN p56 (fun a63 => LD Value.string (Addr.add a63 5) (fun s64 w => AL (.cells #[.string s64] 9) (fun q65 w => APP 9 1 16 #[.string (⟨#[]⟩ : ByteArray)] l59 1 (fun w => cellsOfS w ((some ⟨q65, 0, none⟩), 1, 1) (1 * 1)) (fun l66 w => f22.J8 p56 b57 s58 l66 n60 n61 b62 Kn1 k w) w) w) w)) (f22.J8 p56 b57 s58 l59 n60 n61 b62 Kn1 k w)) (f22.J8 p56 b57 s58 l59 n60 n61 b62 Kn1 k w)) (f22.J8 p56 b57 s58 l59 n60 n61 b62 Kn1 k w)
def f22.J7p (Kn1 : Option Addr → Bool → ByteArray → Sl → Int → World → Prop) (k : Value → World → Prop) : Act → World → Prop := PJ 95 [94, 93, 89, 88, 87, 86, 85] fun us ds w => un us fun v us => asP v fun p56 => un us fun v us => asB v fun b57 => un us fun v us => asStr v fun s58 => un us fun v us => asS v fun l59 => un us fun v us => asI .i64 v fun n60 => un us fun v us => asI .u8 v fun n61 => un us fun v us => asB v fun b62 => nl us (dn ds (f22.J7 p56 b57 s58 l59 n60 n61 b62 Kn1 k w))
def f22.J12 (p113 : Option Addr) (b114 : Bool) (s115 : ByteArray) (l116 : Sl) (n117 : Int) (n118 : Int) (b119 : Bool) (Kn1 : Option Addr → Bool → ByteArray → Sl → Int → World → Prop) (k : Value → World → Prop) (w : World) : Prop :=
  brK b119 (brK (n118 == 108) (brK b114 (NN p113 (fun a120 => LD (Value.int .i64) (Addr.add a120 6) (fun n121 w => CALL Tryz.prog 48 #[.int .i64 n121] (fun v122 w => ∃ s123 : ByteArray, v122 = .string s123 ∧ AL (.cells #[.string s123] 9) (fun q124 w => APP 9 1 16 #[.string (⟨#[]⟩ : ByteArray)] l116 1 (fun w => cellsOfS w ((some ⟨q124, 0, none⟩), 1, 1) (1 * 1)) (fun l125 w => f22.J3 p113 b114 s115 l125 n117 Kn1 k w) w) w) w) w)) (f22.J3 p113 b114 s115 l116 n117 Kn1 k w)) (f22.J3 p113 b114 s115 l116 n117 Kn1 k w)) (f22.J3 p113 b114 s115 l116 n117 Kn1 k w)
def f22.J12p (Kn1 : Option Addr → Bool → ByteArray → Sl → Int → World → Prop) (k : Value → World → Prop) : Act → World → Prop := PJ 95 [94, 93, 89, 88, 87, 86, 85] fun us ds w => un us fun v us => asP v fun p113 => un us fun v us => asB v fun b114 => un us fun v us => asStr v fun s115 => un us fun v us => asS v fun l116 => un us fun v us => asI .i64 v fun n117 => un us fun v us => asI .u8 v fun n118 => un us fun v us => asB v fun b119 => nl us (dn ds (f22.J12 p113 b114 s115 l116 n117 n118 b119 Kn1 k w))
def f22.J11 (p104 : Option Addr) (b105 : Bool) (s106 : ByteArray) (l107 : Sl) (n108 : Int) (n109 : Int) (b110 : Bool) (Kn1 : Option Addr → Bool → ByteArray → Sl → Int → World → Prop) (k : Value → World → Prop) (w : World) : Prop :=
  brK b110 (brK (n109 == 107) (brK (!b105) (AL (.cells #[.string (⟨#[42]⟩ : ByteArray)] 9) (fun q111 w => APP 9 1 16 #[.string (⟨#[]⟩ : ByteArray)] l107 1 (fun w => cellsOfS w ((some ⟨q111, 0, none⟩), 1, 1) (1 * 1)) (fun l112 w => f22.J12 p104 b105 s106 l112 n108 n109 b110 Kn1 k w) w) w) (f22.J12 p104 b105 s106 l107 n108 n109 b110 Kn1 k w)) (f22.J12 p104 b105 s106 l107 n108 n109 b110 Kn1 k w)) (f22.J12 p104 b105 s106 l107 n108 n109 b110 Kn1 k w)
def f22.J11p (Kn1 : Option Addr → Bool → ByteArray → Sl → Int → World → Prop) (k : Value → World → Prop) : Act → World → Prop := PJ 95 [94, 93, 89, 88, 87, 86, 85] fun us ds w => un us fun v us => asP v fun p104 => un us fun v us => asB v fun b105 => un us fun v us => asStr v fun s106 => un us fun v us => asS v fun l107 => un us fun v us => asI .i64 v fun n108 => un us fun v us => asI .u8 v fun n109 => un us fun v us => asB v fun b110 => nl us (dn ds (f22.J11 p104 b105 s106 l107 n108 n109 b110 Kn1 k w))
def f22.J10 (p93 : Option Addr) (b94 : Bool) (s95 : ByteArray) (l96 : Sl) (n97 : Int) (n98 : Int) (b99 : Bool) (Kn1 : Option Addr → Bool → ByteArray → Sl → Int → World → Prop) (k : Value → World → Prop) (w : World) : Prop :=
  brK b99 (brK (n98 == 107) (brK b94 (NN p93 (fun a100 => LD Value.string (Addr.add a100 5) (fun s101 w => AL (.cells #[.string s101] 9) (fun q102 w => APP 9 1 16 #[.string (⟨#[]⟩ : ByteArray)] l96 1 (fun w => cellsOfS w ((some ⟨q102, 0, none⟩), 1, 1) (1 * 1)) (fun l103 w => f22.J11 p93 b94 s95 l103 n97 n98 b99 Kn1 k w) w) w) w)) (f22.J11 p93 b94 s95 l96 n97 n98 b99 Kn1 k w)) (f22.J11 p93 b94 s95 l96 n97 n98 b99 Kn1 k w)) (f22.J11 p93 b94 s95 l96 n97 n98 b99 Kn1 k w)
def f22.J10p (Kn1 : Option Addr → Bool → ByteArray → Sl → Int → World → Prop) (k : Value → World → Prop) : Act → World → Prop := PJ 95 [94, 93, 89, 88, 87, 86, 85] fun us ds w => un us fun v us => asP v fun p93 => un us fun v us => asB v fun b94 => un us fun v us => asStr v fun s95 => un us fun v us => asS v fun l96 => un us fun v us => asI .i64 v fun n97 => un us fun v us => asI .u8 v fun n98 => un us fun v us => asB v fun b99 => nl us (dn ds (f22.J10 p93 b94 s95 l96 n97 n98 b99 Kn1 k w))
def f22.J15 (p146 : Option Addr) (b147 : Bool) (s148 : ByteArray) (l149 : Sl) (n150 : Int) (n151 : Int) (b152 : Bool) (Kn1 : Option Addr → Bool → ByteArray → Sl → Int → World → Prop) (k : Value → World → Prop) (w : World) : Prop :=
  brK b152 (brK (n151 == 108) (brK b147 (NN p146 (fun a153 => LD (Value.int .i64) (Addr.add a153 6) (fun n154 w => CALL Tryz.prog 48 #[.int .i64 n154] (fun v155 w => ∃ s156 : ByteArray, v155 = .string s156 ∧ AL (.cells #[.string s156] 9) (fun q157 w => APP 9 1 16 #[.string (⟨#[]⟩ : ByteArray)] l149 1 (fun w => cellsOfS w ((some ⟨q157, 0, none⟩), 1, 1) (1 * 1)) (fun l158 w => f22.J3 p146 b147 s148 l158 n150 Kn1 k w) w) w) w) w)) (f22.J3 p146 b147 s148 l149 n150 Kn1 k w)) (f22.J3 p146 b147 s148 l149 n150 Kn1 k w)) (f22.J3 p146 b147 s148 l149 n150 Kn1 k w)
def f22.J15p (Kn1 : Option Addr → Bool → ByteArray → Sl → Int → World → Prop) (k : Value → World → Prop) : Act → World → Prop := PJ 95 [94, 93, 89, 88, 87, 86, 85] fun us ds w => un us fun v us => asP v fun p146 => un us fun v us => asB v fun b147 => un us fun v us => asStr v fun s148 => un us fun v us => asS v fun l149 => un us fun v us => asI .i64 v fun n150 => un us fun v us => asI .u8 v fun n151 => un us fun v us => asB v fun b152 => nl us (dn ds (f22.J15 p146 b147 s148 l149 n150 n151 b152 Kn1 k w))
def f22.J14 (p137 : Option Addr) (b138 : Bool) (s139 : ByteArray) (l140 : Sl) (n141 : Int) (n142 : Int) (b143 : Bool) (Kn1 : Option Addr → Bool → ByteArray → Sl → Int → World → Prop) (k : Value → World → Prop) (w : World) : Prop :=
  brK b143 (brK (n142 == 107) (brK (!b138) (AL (.cells #[.string (⟨#[42]⟩ : ByteArray)] 9) (fun q144 w => APP 9 1 16 #[.string (⟨#[]⟩ : ByteArray)] l140 1 (fun w => cellsOfS w ((some ⟨q144, 0, none⟩), 1, 1) (1 * 1)) (fun l145 w => f22.J15 p137 b138 s139 l145 n141 n142 b143 Kn1 k w) w) w) (f22.J15 p137 b138 s139 l140 n141 n142 b143 Kn1 k w)) (f22.J15 p137 b138 s139 l140 n141 n142 b143 Kn1 k w)) (f22.J15 p137 b138 s139 l140 n141 n142 b143 Kn1 k w)
def f22.J14p (Kn1 : Option Addr → Bool → ByteArray → Sl → Int → World → Prop) (k : Value → World → Prop) : Act → World → Prop := PJ 95 [94, 93, 89, 88, 87, 86, 85] fun us ds w => un us fun v us => asP v fun p137 => un us fun v us => asB v fun b138 => un us fun v us => asStr v fun s139 => un us fun v us => asS v fun l140 => un us fun v us => asI .i64 v fun n141 => un us fun v us => asI .u8 v fun n142 => un us fun v us => asB v fun b143 => nl us (dn ds (f22.J14 p137 b138 s139 l140 n141 n142 b143 Kn1 k w))
def f22.J13 (p126 : Option Addr) (b127 : Bool) (s128 : ByteArray) (l129 : Sl) (n130 : Int) (n131 : Int) (b132 : Bool) (Kn1 : Option Addr → Bool → ByteArray → Sl → Int → World → Prop) (k : Value → World → Prop) (w : World) : Prop :=
  brK b132 (brK (n131 == 107) (brK b127 (NN p126 (fun a133 => LD Value.string (Addr.add a133 5) (fun s134 w => AL (.cells #[.string s134] 9) (fun q135 w => APP 9 1 16 #[.string (⟨#[]⟩ : ByteArray)] l129 1 (fun w => cellsOfS w ((some ⟨q135, 0, none⟩), 1, 1) (1 * 1)) (fun l136 w => f22.J14 p126 b127 s128 l136 n130 n131 b132 Kn1 k w) w) w) w)) (f22.J14 p126 b127 s128 l129 n130 n131 b132 Kn1 k w)) (f22.J14 p126 b127 s128 l129 n130 n131 b132 Kn1 k w)) (f22.J14 p126 b127 s128 l129 n130 n131 b132 Kn1 k w)
def f22.J13p (Kn1 : Option Addr → Bool → ByteArray → Sl → Int → World → Prop) (k : Value → World → Prop) : Act → World → Prop := PJ 95 [94, 93, 89, 88, 87, 86, 85] fun us ds w => un us fun v us => asP v fun p126 => un us fun v us => asB v fun b127 => un us fun v us => asStr v fun s128 => un us fun v us => asS v fun l129 => un us fun v us => asI .i64 v fun n130 => un us fun v us => asI .u8 v fun n131 => un us fun v us => asB v fun b132 => nl us (dn ds (f22.J13 p126 b127 s128 l129 n130 n131 b132 Kn1 k w))
def f22.J18 (p183 : Option Addr) (b184 : Bool) (s185 : ByteArray) (l186 : Sl) (n187 : Int) (n188 : Int) (b189 : Bool) (Kn1 : Option Addr → Bool → ByteArray → Sl → Int → World → Prop) (k : Value → World → Prop) (w : World) : Prop :=
  brK b189 (brK (n188 == 108) (brK b184 (NN p183 (fun a190 => LD (Value.int .i64) (Addr.add a190 6) (fun n191 w => CALL Tryz.prog 48 #[.int .i64 n191] (fun v192 w => ∃ s193 : ByteArray, v192 = .string s193 ∧ AL (.cells #[.string s193] 9) (fun q194 w => APP 9 1 16 #[.string (⟨#[]⟩ : ByteArray)] l186 1 (fun w => cellsOfS w ((some ⟨q194, 0, none⟩), 1, 1) (1 * 1)) (fun l195 w => f22.J3 p183 b184 s185 l195 n187 Kn1 k w) w) w) w) w)) (f22.J3 p183 b184 s185 l186 n187 Kn1 k w)) (f22.J3 p183 b184 s185 l186 n187 Kn1 k w)) (f22.J3 p183 b184 s185 l186 n187 Kn1 k w)
def f22.J18p (Kn1 : Option Addr → Bool → ByteArray → Sl → Int → World → Prop) (k : Value → World → Prop) : Act → World → Prop := PJ 95 [94, 93, 89, 88, 87, 86, 85] fun us ds w => un us fun v us => asP v fun p183 => un us fun v us => asB v fun b184 => un us fun v us => asStr v fun s185 => un us fun v us => asS v fun l186 => un us fun v us => asI .i64 v fun n187 => un us fun v us => asI .u8 v fun n188 => un us fun v us => asB v fun b189 => nl us (dn ds (f22.J18 p183 b184 s185 l186 n187 n188 b189 Kn1 k w))
def f22.J17 (p174 : Option Addr) (b175 : Bool) (s176 : ByteArray) (l177 : Sl) (n178 : Int) (n179 : Int) (b180 : Bool) (Kn1 : Option Addr → Bool → ByteArray → Sl → Int → World → Prop) (k : Value → World → Prop) (w : World) : Prop :=
  brK b180 (brK (n179 == 107) (brK (!b175) (AL (.cells #[.string (⟨#[42]⟩ : ByteArray)] 9) (fun q181 w => APP 9 1 16 #[.string (⟨#[]⟩ : ByteArray)] l177 1 (fun w => cellsOfS w ((some ⟨q181, 0, none⟩), 1, 1) (1 * 1)) (fun l182 w => f22.J18 p174 b175 s176 l182 n178 n179 b180 Kn1 k w) w) w) (f22.J18 p174 b175 s176 l177 n178 n179 b180 Kn1 k w)) (f22.J18 p174 b175 s176 l177 n178 n179 b180 Kn1 k w)) (f22.J18 p174 b175 s176 l177 n178 n179 b180 Kn1 k w)
def f22.J17p (Kn1 : Option Addr → Bool → ByteArray → Sl → Int → World → Prop) (k : Value → World → Prop) : Act → World → Prop := PJ 95 [94, 93, 89, 88, 87, 86, 85] fun us ds w => un us fun v us => asP v fun p174 => un us fun v us => asB v fun b175 => un us fun v us => asStr v fun s176 => un us fun v us => asS v fun l177 => un us fun v us => asI .i64 v fun n178 => un us fun v us => asI .u8 v fun n179 => un us fun v us => asB v fun b180 => nl us (dn ds (f22.J17 p174 b175 s176 l177 n178 n179 b180 Kn1 k w))
def f22.J16 (p163 : Option Addr) (b164 : Bool) (s165 : ByteArray) (l166 : Sl) (n167 : Int) (n168 : Int) (b169 : Bool) (Kn1 : Option Addr → Bool → ByteArray → Sl → Int → World → Prop) (k : Value → World → Prop) (w : World) : Prop :=
  brK b169 (brK (n168 == 107) (brK b164 (NN p163 (fun a170 => LD Value.string (Addr.add a170 5) (fun s171 w => AL (.cells #[.string s171] 9) (fun q172 w => APP 9 1 16 #[.string (⟨#[]⟩ : ByteArray)] l166 1 (fun w => cellsOfS w ((some ⟨q172, 0, none⟩), 1, 1) (1 * 1)) (fun l173 w => f22.J17 p163 b164 s165 l173 n167 n168 b169 Kn1 k w) w) w) w)) (f22.J17 p163 b164 s165 l166 n167 n168 b169 Kn1 k w)) (f22.J17 p163 b164 s165 l166 n167 n168 b169 Kn1 k w)) (f22.J17 p163 b164 s165 l166 n167 n168 b169 Kn1 k w)
def f22.J16p (Kn1 : Option Addr → Bool → ByteArray → Sl → Int → World → Prop) (k : Value → World → Prop) : Act → World → Prop := PJ 95 [94, 93, 89, 88, 87, 86, 85] fun us ds w => un us fun v us => asP v fun p163 => un us fun v us => asB v fun b164 => un us fun v us => asStr v fun s165 => un us fun v us => asS v fun l166 => un us fun v us => asI .i64 v fun n167 => un us fun v us => asI .u8 v fun n168 => un us fun v us => asB v fun b169 => nl us (dn ds (f22.J16 p163 b164 s165 l166 n167 n168 b169 Kn1 k w))
def f22.J21 (p216 : Option Addr) (b217 : Bool) (s218 : ByteArray) (l219 : Sl) (n220 : Int) (n221 : Int) (b222 : Bool) (Kn1 : Option Addr → Bool → ByteArray → Sl → Int → World → Prop) (k : Value → World → Prop) (w : World) : Prop :=
  brK b222 (brK (n221 == 108) (brK b217 (NN p216 (fun a223 => LD (Value.int .i64) (Addr.add a223 6) (fun n224 w => CALL Tryz.prog 48 #[.int .i64 n224] (fun v225 w => ∃ s226 : ByteArray, v225 = .string s226 ∧ AL (.cells #[.string s226] 9) (fun q227 w => APP 9 1 16 #[.string (⟨#[]⟩ : ByteArray)] l219 1 (fun w => cellsOfS w ((some ⟨q227, 0, none⟩), 1, 1) (1 * 1)) (fun l228 w => f22.J3 p216 b217 s218 l228 n220 Kn1 k w) w) w) w) w)) (f22.J3 p216 b217 s218 l219 n220 Kn1 k w)) (f22.J3 p216 b217 s218 l219 n220 Kn1 k w)) (f22.J3 p216 b217 s218 l219 n220 Kn1 k w)
def f22.J21p (Kn1 : Option Addr → Bool → ByteArray → Sl → Int → World → Prop) (k : Value → World → Prop) : Act → World → Prop := PJ 95 [94, 93, 89, 88, 87, 86, 85] fun us ds w => un us fun v us => asP v fun p216 => un us fun v us => asB v fun b217 => un us fun v us => asStr v fun s218 => un us fun v us => asS v fun l219 => un us fun v us => asI .i64 v fun n220 => un us fun v us => asI .u8 v fun n221 => un us fun v us => asB v fun b222 => nl us (dn ds (f22.J21 p216 b217 s218 l219 n220 n221 b222 Kn1 k w))
def f22.J20 (p207 : Option Addr) (b208 : Bool) (s209 : ByteArray) (l210 : Sl) (n211 : Int) (n212 : Int) (b213 : Bool) (Kn1 : Option Addr → Bool → ByteArray → Sl → Int → World → Prop) (k : Value → World → Prop) (w : World) : Prop :=
  brK b213 (brK (n212 == 107) (brK (!b208) (AL (.cells #[.string (⟨#[42]⟩ : ByteArray)] 9) (fun q214 w => APP 9 1 16 #[.string (⟨#[]⟩ : ByteArray)] l210 1 (fun w => cellsOfS w ((some ⟨q214, 0, none⟩), 1, 1) (1 * 1)) (fun l215 w => f22.J21 p207 b208 s209 l215 n211 n212 b213 Kn1 k w) w) w) (f22.J21 p207 b208 s209 l210 n211 n212 b213 Kn1 k w)) (f22.J21 p207 b208 s209 l210 n211 n212 b213 Kn1 k w)) (f22.J21 p207 b208 s209 l210 n211 n212 b213 Kn1 k w)
def f22.J20p (Kn1 : Option Addr → Bool → ByteArray → Sl → Int → World → Prop) (k : Value → World → Prop) : Act → World → Prop := PJ 95 [94, 93, 89, 88, 87, 86, 85] fun us ds w => un us fun v us => asP v fun p207 => un us fun v us => asB v fun b208 => un us fun v us => asStr v fun s209 => un us fun v us => asS v fun l210 => un us fun v us => asI .i64 v fun n211 => un us fun v us => asI .u8 v fun n212 => un us fun v us => asB v fun b213 => nl us (dn ds (f22.J20 p207 b208 s209 l210 n211 n212 b213 Kn1 k w))
def f22.J19 (p196 : Option Addr) (b197 : Bool) (s198 : ByteArray) (l199 : Sl) (n200 : Int) (n201 : Int) (b202 : Bool) (Kn1 : Option Addr → Bool → ByteArray → Sl → Int → World → Prop) (k : Value → World → Prop) (w : World) : Prop :=
  brK b202 (brK (n201 == 107) (brK b197 (NN p196 (fun a203 => LD Value.string (Addr.add a203 5) (fun s204 w => AL (.cells #[.string s204] 9) (fun q205 w => APP 9 1 16 #[.string (⟨#[]⟩ : ByteArray)] l199 1 (fun w => cellsOfS w ((some ⟨q205, 0, none⟩), 1, 1) (1 * 1)) (fun l206 w => f22.J20 p196 b197 s198 l206 n200 n201 b202 Kn1 k w) w) w) w)) (f22.J20 p196 b197 s198 l199 n200 n201 b202 Kn1 k w)) (f22.J20 p196 b197 s198 l199 n200 n201 b202 Kn1 k w)) (f22.J20 p196 b197 s198 l199 n200 n201 b202 Kn1 k w)
def f22.J19p (Kn1 : Option Addr → Bool → ByteArray → Sl → Int → World → Prop) (k : Value → World → Prop) : Act → World → Prop := PJ 95 [94, 93, 89, 88, 87, 86, 85] fun us ds w => un us fun v us => asP v fun p196 => un us fun v us => asB v fun b197 => un us fun v us => asStr v fun s198 => un us fun v us => asS v fun l199 => un us fun v us => asI .i64 v fun n200 => un us fun v us => asI .u8 v fun n201 => un us fun v us => asB v fun b202 => nl us (dn ds (f22.J19 p196 b197 s198 l199 n200 n201 b202 Kn1 k w))
def f22.Q4 (k : Value → World → Prop) : Exit → Act → World → Prop := (retQ Tryz.prog [.tmp 4] k)
def f22.L2 (p4 : Option Addr) (b5 : Bool) (s6 : ByteArray) (l7 : Sl) (n8 : Int) (Kn1 : Option Addr → Bool → ByteArray → Sl → Int → World → Prop) (k : Value → World → Prop) (w : World) : Prop :=
  brK (decide (n8 < 7)) (SIX (⟨#[105, 107, 108, 109, 110, 115, 116]⟩ : ByteArray) n8 (fun c9 => CALL Tryz.prog 24 #[.pointer p4, .int .u8 c9] (fun v10 w => ∃ b11 : Bool, v10 = .bool b11 ∧ brK b11 (AL (.cells #[.int .u8 c9] 5) (fun q12 w => B2S ((some ⟨q12, 0, none⟩), 1, 1) (fun s13 w => RQ (((s6.size + s13.size : Nat) : Int) ≤ 9223372036854775807) (f22.J4 p4 b5 (s6 ++ s13) l7 n8 c9 true Kn1 k w)) w) w) (brK (c9 == 107) (NN p4 (fun a52 => LD Value.string (Addr.add a52 5) (fun s53 w => brK (!decide ((s53 : ByteArray) = (⟨#[]⟩ : ByteArray))) (AL (.cells #[.int .u8 c9] 5) (fun q54 w => B2S ((some ⟨q54, 0, none⟩), 1, 1) (fun s55 w => RQ (((s6.size + s55.size : Nat) : Int) ≤ 9223372036854775807) (f22.J7 p4 b5 (s6 ++ s55) l7 n8 c9 true Kn1 k w)) w) w) (brK (c9 == 108) (NN p4 (fun a89 => LD (Value.int .i64) (Addr.add a89 6) (fun n90 w => brK (n90 != 0) (AL (.cells #[.int .u8 c9] 5) (fun q91 w => B2S ((some ⟨q91, 0, none⟩), 1, 1) (fun s92 w => RQ (((s6.size + s92.size : Nat) : Int) ≤ 9223372036854775807) (f22.J10 p4 b5 (s6 ++ s92) l7 n8 c9 (n90 != 0) Kn1 k w)) w) w) (f22.J10 p4 b5 s6 l7 n8 c9 (n90 != 0) Kn1 k w)) w)) (f22.J13 p4 b5 s6 l7 n8 c9 false Kn1 k w))) w)) (brK (c9 == 108) (NN p4 (fun a159 => LD (Value.int .i64) (Addr.add a159 6) (fun n160 w => brK (n160 != 0) (AL (.cells #[.int .u8 c9] 5) (fun q161 w => B2S ((some ⟨q161, 0, none⟩), 1, 1) (fun s162 w => RQ (((s6.size + s162.size : Nat) : Int) ≤ 9223372036854775807) (f22.J16 p4 b5 (s6 ++ s162) l7 n8 c9 (n160 != 0) Kn1 k w)) w) w) (f22.J16 p4 b5 s6 l7 n8 c9 (n160 != 0) Kn1 k w)) w)) (f22.J19 p4 b5 s6 l7 n8 c9 false Kn1 k w)))) w)) (f22.J1 s6 l7 k w)
def f22.L2lp (p4 : Option Addr) (b5 : Bool) (s6 : ByteArray) (l7 : Sl) (n8 : Int) (k : Value → World → Prop) (w : World) : Prop := ∀ D : Nat → Value, (Code.loop (codeAt f22.body [1, 1, 1, 0, 1, 0, 0])).wpIn (Wd none) 0 Tryz.prog (f22.Q1 k) (fr D 95 [94, 93, 89, 88, 87] [.pointer p4, .bool b5, .string s6, slv l7, .int .i64 n8] []) w
def f22.L2p (k : Value → World → Prop) : Act → World → Prop := PJ 95 [94, 93, 89, 88, 87] fun us ds w => un us fun v us => asP v fun p4 => un us fun v us => asB v fun b5 => un us fun v us => asStr v fun s6 => un us fun v us => asS v fun l7 => un us fun v us => asI .i64 v fun n8 => nl us (dn ds (f22.L2lp p4 b5 s6 l7 n8 k w))
def f22.L2K (p4 : Option Addr) (b5 : Bool) (I : ByteArray → Sl → Int → World → Prop) (μ : ByteArray → Sl → Int → World → Nat) (m : Nat) (p4' : Option Addr) (b5' : Bool) (s6' : ByteArray) (l7' : Sl) (n8' : Int) (w : World) : Prop := (p4' = p4 ∧ b5' = b5) ∧ I s6' l7' n8' w ∧ μ s6' l7' n8' w < m
theorem f22.J3_den (D : Nat → Value) (p47 : Option Addr) (b48 : Bool) (s49 : ByteArray) (l50 : Sl) (n51 : Int) (Kn1 : Option Addr → Bool → ByteArray → Sl → Int → World → Prop) (k : Value → World → Prop) (w : World) : pc Tryz.prog none .none (codeAt f22.body [1, 1, 1, 0, 1, 0, 0, 1, 1]) (f22.Q3 Kn1 k) D 95 [94, 93, 89, 88, 87] [.pointer p47, .bool b48, .string s49, slv l50, .int .i64 n51] [] w = f22.J3 p47 b48 s49 l50 n51 Kn1 k w := by kernel_rfl
theorem f22.J3_okc {Kn1 : Option Addr → Bool → ByteArray → Sl → Int → World → Prop} {k : Value → World → Prop} : okC Tryz.prog none .none (codeAt f22.body [1, 1, 1, 0, 1, 0, 0, 1, 1]) (f22.Q3 Kn1 k) :=
  Eq.mpr (by kernel_rfl : okC Tryz.prog none .none (codeAt f22.body [1, 1, 1, 0, 1, 0, 0, 1, 1]) (f22.Q3 Kn1 k) = (True)) (trivial)
theorem f22.J3_ok {Kn1 : Option Addr → Bool → ByteArray → Sl → Int → World → Prop} {k : Value → World → Prop} : OKJ Tryz.prog none (f22.J3p Kn1 k) (codeAt f22.body [1, 1, 1, 0, 1, 0, 0, 1, 1]) (f22.Q3 Kn1 k) := by
  intro a w h
  obtain ⟨D, us, ds, rfl, h0⟩ := PJ_out h
  obtain ⟨v, us, rfl, h1⟩ := un_out h0
  obtain ⟨p47, rfl, h2⟩ := asP_out h1
  obtain ⟨v, us, rfl, h3⟩ := un_out h2
  obtain ⟨b48, rfl, h4⟩ := asB_out h3
  obtain ⟨v, us, rfl, h5⟩ := un_out h4
  obtain ⟨s49, rfl, h6⟩ := asStr_out h5
  obtain ⟨v, us, rfl, h7⟩ := un_out h6
  obtain ⟨l50, rfl, h8⟩ := asS_out h7
  obtain ⟨v, us, rfl, h9⟩ := un_out h8
  obtain ⟨n51, rfl, h10⟩ := asI_out h9
  obtain ⟨rfl, h11⟩ := nl_out h10
  obtain ⟨rfl, h12⟩ := dn_out h11
  rw [← f22.J3_den D p47 b48 s49 l50 n51 Kn1 k w] at h12
  exact pc_wp Tryz.mixed f22.J3_okc h12
theorem f22.J6_den (D : Nat → Value) (p34 : Option Addr) (b35 : Bool) (s36 : ByteArray) (l37 : Sl) (n38 : Int) (n39 : Int) (b40 : Bool) (Kn1 : Option Addr → Bool → ByteArray → Sl → Int → World → Prop) (k : Value → World → Prop) (w : World) : pc Tryz.prog none .none (codeAt f22.body [1, 1, 1, 0, 1, 0, 0, 1, 0, 0, 1, 1, 1, 1, 1]) (f22.Q2 Kn1 k) D 95 [94, 93, 89, 88, 87, 86, 85] [.pointer p34, .bool b35, .string s36, slv l37, .int .i64 n38, .int .u8 n39, .bool b40] [] w = f22.J6 p34 b35 s36 l37 n38 n39 b40 Kn1 k w := by kernel_rfl
theorem f22.J6_okc {Kn1 : Option Addr → Bool → ByteArray → Sl → Int → World → Prop} {k : Value → World → Prop} : okC Tryz.prog none .none (codeAt f22.body [1, 1, 1, 0, 1, 0, 0, 1, 0, 0, 1, 1, 1, 1, 1]) (f22.Q2 Kn1 k) :=
  Eq.mpr (by kernel_rfl : okC Tryz.prog none .none (codeAt f22.body [1, 1, 1, 0, 1, 0, 0, 1, 0, 0, 1, 1, 1, 1, 1]) (f22.Q2 Kn1 k) = (True)) (trivial)
theorem f22.J6_ok {Kn1 : Option Addr → Bool → ByteArray → Sl → Int → World → Prop} {k : Value → World → Prop} : OKJ Tryz.prog none (f22.J6p Kn1 k) (codeAt f22.body [1, 1, 1, 0, 1, 0, 0, 1, 0, 0, 1, 1, 1, 1, 1]) (f22.Q2 Kn1 k) := by
  intro a w h
  obtain ⟨D, us, ds, rfl, h0⟩ := PJ_out h
  obtain ⟨v, us, rfl, h1⟩ := un_out h0
  obtain ⟨p34, rfl, h2⟩ := asP_out h1
  obtain ⟨v, us, rfl, h3⟩ := un_out h2
  obtain ⟨b35, rfl, h4⟩ := asB_out h3
  obtain ⟨v, us, rfl, h5⟩ := un_out h4
  obtain ⟨s36, rfl, h6⟩ := asStr_out h5
  obtain ⟨v, us, rfl, h7⟩ := un_out h6
  obtain ⟨l37, rfl, h8⟩ := asS_out h7
  obtain ⟨v, us, rfl, h9⟩ := un_out h8
  obtain ⟨n38, rfl, h10⟩ := asI_out h9
  obtain ⟨v, us, rfl, h11⟩ := un_out h10
  obtain ⟨n39, rfl, h12⟩ := asI_out h11
  obtain ⟨v, us, rfl, h13⟩ := un_out h12
  obtain ⟨b40, rfl, h14⟩ := asB_out h13
  obtain ⟨rfl, h15⟩ := nl_out h14
  obtain ⟨rfl, h16⟩ := dn_out h15
  rw [← f22.J6_den D p34 b35 s36 l37 n38 n39 b40 Kn1 k w] at h16
  exact pc_wp Tryz.mixed f22.J6_okc h16
theorem f22.J5_den (D : Nat → Value) (p25 : Option Addr) (b26 : Bool) (s27 : ByteArray) (l28 : Sl) (n29 : Int) (n30 : Int) (b31 : Bool) (Kn1 : Option Addr → Bool → ByteArray → Sl → Int → World → Prop) (k : Value → World → Prop) (w : World) : pc Tryz.prog none (.seq (some (f22.J6p Kn1 k)) .none .none) (codeAt f22.body [1, 1, 1, 0, 1, 0, 0, 1, 0, 0, 1, 1, 1, 1]) (f22.Q2 Kn1 k) D 95 [94, 93, 89, 88, 87, 86, 85] [.pointer p25, .bool b26, .string s27, slv l28, .int .i64 n29, .int .u8 n30, .bool b31] [] w = f22.J5 p25 b26 s27 l28 n29 n30 b31 Kn1 k w := by kernel_rfl
theorem f22.J5_okc {Kn1 : Option Addr → Bool → ByteArray → Sl → Int → World → Prop} {k : Value → World → Prop} : okC Tryz.prog none (.seq (some (f22.J6p Kn1 k)) .none .none) (codeAt f22.body [1, 1, 1, 0, 1, 0, 0, 1, 0, 0, 1, 1, 1, 1]) (f22.Q2 Kn1 k) :=
  Eq.mpr (by kernel_rfl : okC Tryz.prog none (.seq (some (f22.J6p Kn1 k)) .none .none) (codeAt f22.body [1, 1, 1, 0, 1, 0, 0, 1, 0, 0, 1, 1, 1, 1]) (f22.Q2 Kn1 k) = (((True) ∧ OKJ Tryz.prog none (f22.J6p Kn1 k) (codeAt f22.body [1, 1, 1, 0, 1, 0, 0, 1, 0, 0, 1, 1, 1, 1, 1]) (f22.Q2 Kn1 k)))) (⟨trivial, f22.J6_ok⟩)
theorem f22.J5_ok {Kn1 : Option Addr → Bool → ByteArray → Sl → Int → World → Prop} {k : Value → World → Prop} : OKJ Tryz.prog none (f22.J5p Kn1 k) (codeAt f22.body [1, 1, 1, 0, 1, 0, 0, 1, 0, 0, 1, 1, 1, 1]) (f22.Q2 Kn1 k) := by
  intro a w h
  obtain ⟨D, us, ds, rfl, h0⟩ := PJ_out h
  obtain ⟨v, us, rfl, h1⟩ := un_out h0
  obtain ⟨p25, rfl, h2⟩ := asP_out h1
  obtain ⟨v, us, rfl, h3⟩ := un_out h2
  obtain ⟨b26, rfl, h4⟩ := asB_out h3
  obtain ⟨v, us, rfl, h5⟩ := un_out h4
  obtain ⟨s27, rfl, h6⟩ := asStr_out h5
  obtain ⟨v, us, rfl, h7⟩ := un_out h6
  obtain ⟨l28, rfl, h8⟩ := asS_out h7
  obtain ⟨v, us, rfl, h9⟩ := un_out h8
  obtain ⟨n29, rfl, h10⟩ := asI_out h9
  obtain ⟨v, us, rfl, h11⟩ := un_out h10
  obtain ⟨n30, rfl, h12⟩ := asI_out h11
  obtain ⟨v, us, rfl, h13⟩ := un_out h12
  obtain ⟨b31, rfl, h14⟩ := asB_out h13
  obtain ⟨rfl, h15⟩ := nl_out h14
  obtain ⟨rfl, h16⟩ := dn_out h15
  rw [← f22.J5_den D p25 b26 s27 l28 n29 n30 b31 Kn1 k w] at h16
  exact pc_wp Tryz.mixed f22.J5_okc h16
theorem f22.J4_den (D : Nat → Value) (p14 : Option Addr) (b15 : Bool) (s16 : ByteArray) (l17 : Sl) (n18 : Int) (n19 : Int) (b20 : Bool) (Kn1 : Option Addr → Bool → ByteArray → Sl → Int → World → Prop) (k : Value → World → Prop) (w : World) : pc Tryz.prog none (.seq (some (f22.J5p Kn1 k)) .none .none) (codeAt f22.body [1, 1, 1, 0, 1, 0, 0, 1, 0, 0, 1, 1, 1]) (f22.Q2 Kn1 k) D 95 [94, 93, 89, 88, 87, 86, 85] [.pointer p14, .bool b15, .string s16, slv l17, .int .i64 n18, .int .u8 n19, .bool b20] [] w = f22.J4 p14 b15 s16 l17 n18 n19 b20 Kn1 k w := by kernel_rfl
theorem f22.J4_okc {Kn1 : Option Addr → Bool → ByteArray → Sl → Int → World → Prop} {k : Value → World → Prop} : okC Tryz.prog none (.seq (some (f22.J5p Kn1 k)) .none .none) (codeAt f22.body [1, 1, 1, 0, 1, 0, 0, 1, 0, 0, 1, 1, 1]) (f22.Q2 Kn1 k) :=
  Eq.mpr (by kernel_rfl : okC Tryz.prog none (.seq (some (f22.J5p Kn1 k)) .none .none) (codeAt f22.body [1, 1, 1, 0, 1, 0, 0, 1, 0, 0, 1, 1, 1]) (f22.Q2 Kn1 k) = (((True) ∧ OKJ Tryz.prog none (f22.J5p Kn1 k) (codeAt f22.body [1, 1, 1, 0, 1, 0, 0, 1, 0, 0, 1, 1, 1, 1]) (f22.Q2 Kn1 k)))) (⟨trivial, f22.J5_ok⟩)
theorem f22.J4_ok {Kn1 : Option Addr → Bool → ByteArray → Sl → Int → World → Prop} {k : Value → World → Prop} : OKJ Tryz.prog none (f22.J4p Kn1 k) (codeAt f22.body [1, 1, 1, 0, 1, 0, 0, 1, 0, 0, 1, 1, 1]) (f22.Q2 Kn1 k) := by
  intro a w h
  obtain ⟨D, us, ds, rfl, h0⟩ := PJ_out h
  obtain ⟨v, us, rfl, h1⟩ := un_out h0
  obtain ⟨p14, rfl, h2⟩ := asP_out h1
  obtain ⟨v, us, rfl, h3⟩ := un_out h2
  obtain ⟨b15, rfl, h4⟩ := asB_out h3
  obtain ⟨v, us, rfl, h5⟩ := un_out h4
  obtain ⟨s16, rfl, h6⟩ := asStr_out h5
  obtain ⟨v, us, rfl, h7⟩ := un_out h6
  obtain ⟨l17, rfl, h8⟩ := asS_out h7
  obtain ⟨v, us, rfl, h9⟩ := un_out h8
  obtain ⟨n18, rfl, h10⟩ := asI_out h9
  obtain ⟨v, us, rfl, h11⟩ := un_out h10
  obtain ⟨n19, rfl, h12⟩ := asI_out h11
  obtain ⟨v, us, rfl, h13⟩ := un_out h12
  obtain ⟨b20, rfl, h14⟩ := asB_out h13
  obtain ⟨rfl, h15⟩ := nl_out h14
  obtain ⟨rfl, h16⟩ := dn_out h15
  rw [← f22.J4_den D p14 b15 s16 l17 n18 n19 b20 Kn1 k w] at h16
  exact pc_wp Tryz.mixed f22.J4_okc h16
theorem f22.J9_den (D : Nat → Value) (p76 : Option Addr) (b77 : Bool) (s78 : ByteArray) (l79 : Sl) (n80 : Int) (n81 : Int) (b82 : Bool) (Kn1 : Option Addr → Bool → ByteArray → Sl → Int → World → Prop) (k : Value → World → Prop) (w : World) : pc Tryz.prog none .none (codeAt f22.body [1, 1, 1, 0, 1, 0, 0, 1, 0, 0, 1, 1, 1, 1, 1]) (f22.Q2 Kn1 k) D 95 [94, 93, 89, 88, 87, 86, 85] [.pointer p76, .bool b77, .string s78, slv l79, .int .i64 n80, .int .u8 n81, .bool b82] [] w = f22.J9 p76 b77 s78 l79 n80 n81 b82 Kn1 k w := by kernel_rfl
theorem f22.J9_okc {Kn1 : Option Addr → Bool → ByteArray → Sl → Int → World → Prop} {k : Value → World → Prop} : okC Tryz.prog none .none (codeAt f22.body [1, 1, 1, 0, 1, 0, 0, 1, 0, 0, 1, 1, 1, 1, 1]) (f22.Q2 Kn1 k) :=
  Eq.mpr (by kernel_rfl : okC Tryz.prog none .none (codeAt f22.body [1, 1, 1, 0, 1, 0, 0, 1, 0, 0, 1, 1, 1, 1, 1]) (f22.Q2 Kn1 k) = (True)) (trivial)
theorem f22.J9_ok {Kn1 : Option Addr → Bool → ByteArray → Sl → Int → World → Prop} {k : Value → World → Prop} : OKJ Tryz.prog none (f22.J9p Kn1 k) (codeAt f22.body [1, 1, 1, 0, 1, 0, 0, 1, 0, 0, 1, 1, 1, 1, 1]) (f22.Q2 Kn1 k) := by
  intro a w h
  obtain ⟨D, us, ds, rfl, h0⟩ := PJ_out h
  obtain ⟨v, us, rfl, h1⟩ := un_out h0
  obtain ⟨p76, rfl, h2⟩ := asP_out h1
  obtain ⟨v, us, rfl, h3⟩ := un_out h2
  obtain ⟨b77, rfl, h4⟩ := asB_out h3
  obtain ⟨v, us, rfl, h5⟩ := un_out h4
  obtain ⟨s78, rfl, h6⟩ := asStr_out h5
  obtain ⟨v, us, rfl, h7⟩ := un_out h6
  obtain ⟨l79, rfl, h8⟩ := asS_out h7
  obtain ⟨v, us, rfl, h9⟩ := un_out h8
  obtain ⟨n80, rfl, h10⟩ := asI_out h9
  obtain ⟨v, us, rfl, h11⟩ := un_out h10
  obtain ⟨n81, rfl, h12⟩ := asI_out h11
  obtain ⟨v, us, rfl, h13⟩ := un_out h12
  obtain ⟨b82, rfl, h14⟩ := asB_out h13
  obtain ⟨rfl, h15⟩ := nl_out h14
  obtain ⟨rfl, h16⟩ := dn_out h15
  rw [← f22.J9_den D p76 b77 s78 l79 n80 n81 b82 Kn1 k w] at h16
  exact pc_wp Tryz.mixed f22.J9_okc h16
theorem f22.J8_den (D : Nat → Value) (p67 : Option Addr) (b68 : Bool) (s69 : ByteArray) (l70 : Sl) (n71 : Int) (n72 : Int) (b73 : Bool) (Kn1 : Option Addr → Bool → ByteArray → Sl → Int → World → Prop) (k : Value → World → Prop) (w : World) : pc Tryz.prog none (.seq (some (f22.J9p Kn1 k)) .none .none) (codeAt f22.body [1, 1, 1, 0, 1, 0, 0, 1, 0, 0, 1, 1, 1, 1]) (f22.Q2 Kn1 k) D 95 [94, 93, 89, 88, 87, 86, 85] [.pointer p67, .bool b68, .string s69, slv l70, .int .i64 n71, .int .u8 n72, .bool b73] [] w = f22.J8 p67 b68 s69 l70 n71 n72 b73 Kn1 k w := by kernel_rfl
theorem f22.J8_okc {Kn1 : Option Addr → Bool → ByteArray → Sl → Int → World → Prop} {k : Value → World → Prop} : okC Tryz.prog none (.seq (some (f22.J9p Kn1 k)) .none .none) (codeAt f22.body [1, 1, 1, 0, 1, 0, 0, 1, 0, 0, 1, 1, 1, 1]) (f22.Q2 Kn1 k) :=
  Eq.mpr (by kernel_rfl : okC Tryz.prog none (.seq (some (f22.J9p Kn1 k)) .none .none) (codeAt f22.body [1, 1, 1, 0, 1, 0, 0, 1, 0, 0, 1, 1, 1, 1]) (f22.Q2 Kn1 k) = (((True) ∧ OKJ Tryz.prog none (f22.J9p Kn1 k) (codeAt f22.body [1, 1, 1, 0, 1, 0, 0, 1, 0, 0, 1, 1, 1, 1, 1]) (f22.Q2 Kn1 k)))) (⟨trivial, f22.J9_ok⟩)
theorem f22.J8_ok {Kn1 : Option Addr → Bool → ByteArray → Sl → Int → World → Prop} {k : Value → World → Prop} : OKJ Tryz.prog none (f22.J8p Kn1 k) (codeAt f22.body [1, 1, 1, 0, 1, 0, 0, 1, 0, 0, 1, 1, 1, 1]) (f22.Q2 Kn1 k) := by
  intro a w h
  obtain ⟨D, us, ds, rfl, h0⟩ := PJ_out h
  obtain ⟨v, us, rfl, h1⟩ := un_out h0
  obtain ⟨p67, rfl, h2⟩ := asP_out h1
  obtain ⟨v, us, rfl, h3⟩ := un_out h2
  obtain ⟨b68, rfl, h4⟩ := asB_out h3
  obtain ⟨v, us, rfl, h5⟩ := un_out h4
  obtain ⟨s69, rfl, h6⟩ := asStr_out h5
  obtain ⟨v, us, rfl, h7⟩ := un_out h6
  obtain ⟨l70, rfl, h8⟩ := asS_out h7
  obtain ⟨v, us, rfl, h9⟩ := un_out h8
  obtain ⟨n71, rfl, h10⟩ := asI_out h9
  obtain ⟨v, us, rfl, h11⟩ := un_out h10
  obtain ⟨n72, rfl, h12⟩ := asI_out h11
  obtain ⟨v, us, rfl, h13⟩ := un_out h12
  obtain ⟨b73, rfl, h14⟩ := asB_out h13
  obtain ⟨rfl, h15⟩ := nl_out h14
  obtain ⟨rfl, h16⟩ := dn_out h15
  rw [← f22.J8_den D p67 b68 s69 l70 n71 n72 b73 Kn1 k w] at h16
  exact pc_wp Tryz.mixed f22.J8_okc h16
theorem f22.J7_den (D : Nat → Value) (p56 : Option Addr) (b57 : Bool) (s58 : ByteArray) (l59 : Sl) (n60 : Int) (n61 : Int) (b62 : Bool) (Kn1 : Option Addr → Bool → ByteArray → Sl → Int → World → Prop) (k : Value → World → Prop) (w : World) : pc Tryz.prog none (.seq (some (f22.J8p Kn1 k)) .none .none) (codeAt f22.body [1, 1, 1, 0, 1, 0, 0, 1, 0, 0, 1, 1, 1]) (f22.Q2 Kn1 k) D 95 [94, 93, 89, 88, 87, 86, 85] [.pointer p56, .bool b57, .string s58, slv l59, .int .i64 n60, .int .u8 n61, .bool b62] [] w = f22.J7 p56 b57 s58 l59 n60 n61 b62 Kn1 k w := by kernel_rfl
theorem f22.J7_okc {Kn1 : Option Addr → Bool → ByteArray → Sl → Int → World → Prop} {k : Value → World → Prop} : okC Tryz.prog none (.seq (some (f22.J8p Kn1 k)) .none .none) (codeAt f22.body [1, 1, 1, 0, 1, 0, 0, 1, 0, 0, 1, 1, 1]) (f22.Q2 Kn1 k) :=
  Eq.mpr (by kernel_rfl : okC Tryz.prog none (.seq (some (f22.J8p Kn1 k)) .none .none) (codeAt f22.body [1, 1, 1, 0, 1, 0, 0, 1, 0, 0, 1, 1, 1]) (f22.Q2 Kn1 k) = (((True) ∧ OKJ Tryz.prog none (f22.J8p Kn1 k) (codeAt f22.body [1, 1, 1, 0, 1, 0, 0, 1, 0, 0, 1, 1, 1, 1]) (f22.Q2 Kn1 k)))) (⟨trivial, f22.J8_ok⟩)
theorem f22.J7_ok {Kn1 : Option Addr → Bool → ByteArray → Sl → Int → World → Prop} {k : Value → World → Prop} : OKJ Tryz.prog none (f22.J7p Kn1 k) (codeAt f22.body [1, 1, 1, 0, 1, 0, 0, 1, 0, 0, 1, 1, 1]) (f22.Q2 Kn1 k) := by
  intro a w h
  obtain ⟨D, us, ds, rfl, h0⟩ := PJ_out h
  obtain ⟨v, us, rfl, h1⟩ := un_out h0
  obtain ⟨p56, rfl, h2⟩ := asP_out h1
  obtain ⟨v, us, rfl, h3⟩ := un_out h2
  obtain ⟨b57, rfl, h4⟩ := asB_out h3
  obtain ⟨v, us, rfl, h5⟩ := un_out h4
  obtain ⟨s58, rfl, h6⟩ := asStr_out h5
  obtain ⟨v, us, rfl, h7⟩ := un_out h6
  obtain ⟨l59, rfl, h8⟩ := asS_out h7
  obtain ⟨v, us, rfl, h9⟩ := un_out h8
  obtain ⟨n60, rfl, h10⟩ := asI_out h9
  obtain ⟨v, us, rfl, h11⟩ := un_out h10
  obtain ⟨n61, rfl, h12⟩ := asI_out h11
  obtain ⟨v, us, rfl, h13⟩ := un_out h12
  obtain ⟨b62, rfl, h14⟩ := asB_out h13
  obtain ⟨rfl, h15⟩ := nl_out h14
  obtain ⟨rfl, h16⟩ := dn_out h15
  rw [← f22.J7_den D p56 b57 s58 l59 n60 n61 b62 Kn1 k w] at h16
  exact pc_wp Tryz.mixed f22.J7_okc h16
theorem f22.J12_den (D : Nat → Value) (p113 : Option Addr) (b114 : Bool) (s115 : ByteArray) (l116 : Sl) (n117 : Int) (n118 : Int) (b119 : Bool) (Kn1 : Option Addr → Bool → ByteArray → Sl → Int → World → Prop) (k : Value → World → Prop) (w : World) : pc Tryz.prog none .none (codeAt f22.body [1, 1, 1, 0, 1, 0, 0, 1, 0, 0, 1, 1, 1, 1, 1]) (f22.Q2 Kn1 k) D 95 [94, 93, 89, 88, 87, 86, 85] [.pointer p113, .bool b114, .string s115, slv l116, .int .i64 n117, .int .u8 n118, .bool b119] [] w = f22.J12 p113 b114 s115 l116 n117 n118 b119 Kn1 k w := by kernel_rfl
theorem f22.J12_okc {Kn1 : Option Addr → Bool → ByteArray → Sl → Int → World → Prop} {k : Value → World → Prop} : okC Tryz.prog none .none (codeAt f22.body [1, 1, 1, 0, 1, 0, 0, 1, 0, 0, 1, 1, 1, 1, 1]) (f22.Q2 Kn1 k) :=
  Eq.mpr (by kernel_rfl : okC Tryz.prog none .none (codeAt f22.body [1, 1, 1, 0, 1, 0, 0, 1, 0, 0, 1, 1, 1, 1, 1]) (f22.Q2 Kn1 k) = (True)) (trivial)
theorem f22.J12_ok {Kn1 : Option Addr → Bool → ByteArray → Sl → Int → World → Prop} {k : Value → World → Prop} : OKJ Tryz.prog none (f22.J12p Kn1 k) (codeAt f22.body [1, 1, 1, 0, 1, 0, 0, 1, 0, 0, 1, 1, 1, 1, 1]) (f22.Q2 Kn1 k) := by
  intro a w h
  obtain ⟨D, us, ds, rfl, h0⟩ := PJ_out h
  obtain ⟨v, us, rfl, h1⟩ := un_out h0
  obtain ⟨p113, rfl, h2⟩ := asP_out h1
  obtain ⟨v, us, rfl, h3⟩ := un_out h2
  obtain ⟨b114, rfl, h4⟩ := asB_out h3
  obtain ⟨v, us, rfl, h5⟩ := un_out h4
  obtain ⟨s115, rfl, h6⟩ := asStr_out h5
  obtain ⟨v, us, rfl, h7⟩ := un_out h6
  obtain ⟨l116, rfl, h8⟩ := asS_out h7
  obtain ⟨v, us, rfl, h9⟩ := un_out h8
  obtain ⟨n117, rfl, h10⟩ := asI_out h9
  obtain ⟨v, us, rfl, h11⟩ := un_out h10
  obtain ⟨n118, rfl, h12⟩ := asI_out h11
  obtain ⟨v, us, rfl, h13⟩ := un_out h12
  obtain ⟨b119, rfl, h14⟩ := asB_out h13
  obtain ⟨rfl, h15⟩ := nl_out h14
  obtain ⟨rfl, h16⟩ := dn_out h15
  rw [← f22.J12_den D p113 b114 s115 l116 n117 n118 b119 Kn1 k w] at h16
  exact pc_wp Tryz.mixed f22.J12_okc h16
theorem f22.J11_den (D : Nat → Value) (p104 : Option Addr) (b105 : Bool) (s106 : ByteArray) (l107 : Sl) (n108 : Int) (n109 : Int) (b110 : Bool) (Kn1 : Option Addr → Bool → ByteArray → Sl → Int → World → Prop) (k : Value → World → Prop) (w : World) : pc Tryz.prog none (.seq (some (f22.J12p Kn1 k)) .none .none) (codeAt f22.body [1, 1, 1, 0, 1, 0, 0, 1, 0, 0, 1, 1, 1, 1]) (f22.Q2 Kn1 k) D 95 [94, 93, 89, 88, 87, 86, 85] [.pointer p104, .bool b105, .string s106, slv l107, .int .i64 n108, .int .u8 n109, .bool b110] [] w = f22.J11 p104 b105 s106 l107 n108 n109 b110 Kn1 k w := by kernel_rfl
theorem f22.J11_okc {Kn1 : Option Addr → Bool → ByteArray → Sl → Int → World → Prop} {k : Value → World → Prop} : okC Tryz.prog none (.seq (some (f22.J12p Kn1 k)) .none .none) (codeAt f22.body [1, 1, 1, 0, 1, 0, 0, 1, 0, 0, 1, 1, 1, 1]) (f22.Q2 Kn1 k) :=
  Eq.mpr (by kernel_rfl : okC Tryz.prog none (.seq (some (f22.J12p Kn1 k)) .none .none) (codeAt f22.body [1, 1, 1, 0, 1, 0, 0, 1, 0, 0, 1, 1, 1, 1]) (f22.Q2 Kn1 k) = (((True) ∧ OKJ Tryz.prog none (f22.J12p Kn1 k) (codeAt f22.body [1, 1, 1, 0, 1, 0, 0, 1, 0, 0, 1, 1, 1, 1, 1]) (f22.Q2 Kn1 k)))) (⟨trivial, f22.J12_ok⟩)
theorem f22.J11_ok {Kn1 : Option Addr → Bool → ByteArray → Sl → Int → World → Prop} {k : Value → World → Prop} : OKJ Tryz.prog none (f22.J11p Kn1 k) (codeAt f22.body [1, 1, 1, 0, 1, 0, 0, 1, 0, 0, 1, 1, 1, 1]) (f22.Q2 Kn1 k) := by
  intro a w h
  obtain ⟨D, us, ds, rfl, h0⟩ := PJ_out h
  obtain ⟨v, us, rfl, h1⟩ := un_out h0
  obtain ⟨p104, rfl, h2⟩ := asP_out h1
  obtain ⟨v, us, rfl, h3⟩ := un_out h2
  obtain ⟨b105, rfl, h4⟩ := asB_out h3
  obtain ⟨v, us, rfl, h5⟩ := un_out h4
  obtain ⟨s106, rfl, h6⟩ := asStr_out h5
  obtain ⟨v, us, rfl, h7⟩ := un_out h6
  obtain ⟨l107, rfl, h8⟩ := asS_out h7
  obtain ⟨v, us, rfl, h9⟩ := un_out h8
  obtain ⟨n108, rfl, h10⟩ := asI_out h9
  obtain ⟨v, us, rfl, h11⟩ := un_out h10
  obtain ⟨n109, rfl, h12⟩ := asI_out h11
  obtain ⟨v, us, rfl, h13⟩ := un_out h12
  obtain ⟨b110, rfl, h14⟩ := asB_out h13
  obtain ⟨rfl, h15⟩ := nl_out h14
  obtain ⟨rfl, h16⟩ := dn_out h15
  rw [← f22.J11_den D p104 b105 s106 l107 n108 n109 b110 Kn1 k w] at h16
  exact pc_wp Tryz.mixed f22.J11_okc h16
theorem f22.J10_den (D : Nat → Value) (p93 : Option Addr) (b94 : Bool) (s95 : ByteArray) (l96 : Sl) (n97 : Int) (n98 : Int) (b99 : Bool) (Kn1 : Option Addr → Bool → ByteArray → Sl → Int → World → Prop) (k : Value → World → Prop) (w : World) : pc Tryz.prog none (.seq (some (f22.J11p Kn1 k)) .none .none) (codeAt f22.body [1, 1, 1, 0, 1, 0, 0, 1, 0, 0, 1, 1, 1]) (f22.Q2 Kn1 k) D 95 [94, 93, 89, 88, 87, 86, 85] [.pointer p93, .bool b94, .string s95, slv l96, .int .i64 n97, .int .u8 n98, .bool b99] [] w = f22.J10 p93 b94 s95 l96 n97 n98 b99 Kn1 k w := by kernel_rfl
theorem f22.J10_okc {Kn1 : Option Addr → Bool → ByteArray → Sl → Int → World → Prop} {k : Value → World → Prop} : okC Tryz.prog none (.seq (some (f22.J11p Kn1 k)) .none .none) (codeAt f22.body [1, 1, 1, 0, 1, 0, 0, 1, 0, 0, 1, 1, 1]) (f22.Q2 Kn1 k) :=
  Eq.mpr (by kernel_rfl : okC Tryz.prog none (.seq (some (f22.J11p Kn1 k)) .none .none) (codeAt f22.body [1, 1, 1, 0, 1, 0, 0, 1, 0, 0, 1, 1, 1]) (f22.Q2 Kn1 k) = (((True) ∧ OKJ Tryz.prog none (f22.J11p Kn1 k) (codeAt f22.body [1, 1, 1, 0, 1, 0, 0, 1, 0, 0, 1, 1, 1, 1]) (f22.Q2 Kn1 k)))) (⟨trivial, f22.J11_ok⟩)
theorem f22.J10_ok {Kn1 : Option Addr → Bool → ByteArray → Sl → Int → World → Prop} {k : Value → World → Prop} : OKJ Tryz.prog none (f22.J10p Kn1 k) (codeAt f22.body [1, 1, 1, 0, 1, 0, 0, 1, 0, 0, 1, 1, 1]) (f22.Q2 Kn1 k) := by
  intro a w h
  obtain ⟨D, us, ds, rfl, h0⟩ := PJ_out h
  obtain ⟨v, us, rfl, h1⟩ := un_out h0
  obtain ⟨p93, rfl, h2⟩ := asP_out h1
  obtain ⟨v, us, rfl, h3⟩ := un_out h2
  obtain ⟨b94, rfl, h4⟩ := asB_out h3
  obtain ⟨v, us, rfl, h5⟩ := un_out h4
  obtain ⟨s95, rfl, h6⟩ := asStr_out h5
  obtain ⟨v, us, rfl, h7⟩ := un_out h6
  obtain ⟨l96, rfl, h8⟩ := asS_out h7
  obtain ⟨v, us, rfl, h9⟩ := un_out h8
  obtain ⟨n97, rfl, h10⟩ := asI_out h9
  obtain ⟨v, us, rfl, h11⟩ := un_out h10
  obtain ⟨n98, rfl, h12⟩ := asI_out h11
  obtain ⟨v, us, rfl, h13⟩ := un_out h12
  obtain ⟨b99, rfl, h14⟩ := asB_out h13
  obtain ⟨rfl, h15⟩ := nl_out h14
  obtain ⟨rfl, h16⟩ := dn_out h15
  rw [← f22.J10_den D p93 b94 s95 l96 n97 n98 b99 Kn1 k w] at h16
  exact pc_wp Tryz.mixed f22.J10_okc h16
theorem f22.J15_den (D : Nat → Value) (p146 : Option Addr) (b147 : Bool) (s148 : ByteArray) (l149 : Sl) (n150 : Int) (n151 : Int) (b152 : Bool) (Kn1 : Option Addr → Bool → ByteArray → Sl → Int → World → Prop) (k : Value → World → Prop) (w : World) : pc Tryz.prog none .none (codeAt f22.body [1, 1, 1, 0, 1, 0, 0, 1, 0, 0, 1, 1, 1, 1, 1]) (f22.Q2 Kn1 k) D 95 [94, 93, 89, 88, 87, 86, 85] [.pointer p146, .bool b147, .string s148, slv l149, .int .i64 n150, .int .u8 n151, .bool b152] [] w = f22.J15 p146 b147 s148 l149 n150 n151 b152 Kn1 k w := by kernel_rfl
theorem f22.J15_okc {Kn1 : Option Addr → Bool → ByteArray → Sl → Int → World → Prop} {k : Value → World → Prop} : okC Tryz.prog none .none (codeAt f22.body [1, 1, 1, 0, 1, 0, 0, 1, 0, 0, 1, 1, 1, 1, 1]) (f22.Q2 Kn1 k) :=
  Eq.mpr (by kernel_rfl : okC Tryz.prog none .none (codeAt f22.body [1, 1, 1, 0, 1, 0, 0, 1, 0, 0, 1, 1, 1, 1, 1]) (f22.Q2 Kn1 k) = (True)) (trivial)
theorem f22.J15_ok {Kn1 : Option Addr → Bool → ByteArray → Sl → Int → World → Prop} {k : Value → World → Prop} : OKJ Tryz.prog none (f22.J15p Kn1 k) (codeAt f22.body [1, 1, 1, 0, 1, 0, 0, 1, 0, 0, 1, 1, 1, 1, 1]) (f22.Q2 Kn1 k) := by
  intro a w h
  obtain ⟨D, us, ds, rfl, h0⟩ := PJ_out h
  obtain ⟨v, us, rfl, h1⟩ := un_out h0
  obtain ⟨p146, rfl, h2⟩ := asP_out h1
  obtain ⟨v, us, rfl, h3⟩ := un_out h2
  obtain ⟨b147, rfl, h4⟩ := asB_out h3
  obtain ⟨v, us, rfl, h5⟩ := un_out h4
  obtain ⟨s148, rfl, h6⟩ := asStr_out h5
  obtain ⟨v, us, rfl, h7⟩ := un_out h6
  obtain ⟨l149, rfl, h8⟩ := asS_out h7
  obtain ⟨v, us, rfl, h9⟩ := un_out h8
  obtain ⟨n150, rfl, h10⟩ := asI_out h9
  obtain ⟨v, us, rfl, h11⟩ := un_out h10
  obtain ⟨n151, rfl, h12⟩ := asI_out h11
  obtain ⟨v, us, rfl, h13⟩ := un_out h12
  obtain ⟨b152, rfl, h14⟩ := asB_out h13
  obtain ⟨rfl, h15⟩ := nl_out h14
  obtain ⟨rfl, h16⟩ := dn_out h15
  rw [← f22.J15_den D p146 b147 s148 l149 n150 n151 b152 Kn1 k w] at h16
  exact pc_wp Tryz.mixed f22.J15_okc h16
theorem f22.J14_den (D : Nat → Value) (p137 : Option Addr) (b138 : Bool) (s139 : ByteArray) (l140 : Sl) (n141 : Int) (n142 : Int) (b143 : Bool) (Kn1 : Option Addr → Bool → ByteArray → Sl → Int → World → Prop) (k : Value → World → Prop) (w : World) : pc Tryz.prog none (.seq (some (f22.J15p Kn1 k)) .none .none) (codeAt f22.body [1, 1, 1, 0, 1, 0, 0, 1, 0, 0, 1, 1, 1, 1]) (f22.Q2 Kn1 k) D 95 [94, 93, 89, 88, 87, 86, 85] [.pointer p137, .bool b138, .string s139, slv l140, .int .i64 n141, .int .u8 n142, .bool b143] [] w = f22.J14 p137 b138 s139 l140 n141 n142 b143 Kn1 k w := by kernel_rfl
theorem f22.J14_okc {Kn1 : Option Addr → Bool → ByteArray → Sl → Int → World → Prop} {k : Value → World → Prop} : okC Tryz.prog none (.seq (some (f22.J15p Kn1 k)) .none .none) (codeAt f22.body [1, 1, 1, 0, 1, 0, 0, 1, 0, 0, 1, 1, 1, 1]) (f22.Q2 Kn1 k) :=
  Eq.mpr (by kernel_rfl : okC Tryz.prog none (.seq (some (f22.J15p Kn1 k)) .none .none) (codeAt f22.body [1, 1, 1, 0, 1, 0, 0, 1, 0, 0, 1, 1, 1, 1]) (f22.Q2 Kn1 k) = (((True) ∧ OKJ Tryz.prog none (f22.J15p Kn1 k) (codeAt f22.body [1, 1, 1, 0, 1, 0, 0, 1, 0, 0, 1, 1, 1, 1, 1]) (f22.Q2 Kn1 k)))) (⟨trivial, f22.J15_ok⟩)
theorem f22.J14_ok {Kn1 : Option Addr → Bool → ByteArray → Sl → Int → World → Prop} {k : Value → World → Prop} : OKJ Tryz.prog none (f22.J14p Kn1 k) (codeAt f22.body [1, 1, 1, 0, 1, 0, 0, 1, 0, 0, 1, 1, 1, 1]) (f22.Q2 Kn1 k) := by
  intro a w h
  obtain ⟨D, us, ds, rfl, h0⟩ := PJ_out h
  obtain ⟨v, us, rfl, h1⟩ := un_out h0
  obtain ⟨p137, rfl, h2⟩ := asP_out h1
  obtain ⟨v, us, rfl, h3⟩ := un_out h2
  obtain ⟨b138, rfl, h4⟩ := asB_out h3
  obtain ⟨v, us, rfl, h5⟩ := un_out h4
  obtain ⟨s139, rfl, h6⟩ := asStr_out h5
  obtain ⟨v, us, rfl, h7⟩ := un_out h6
  obtain ⟨l140, rfl, h8⟩ := asS_out h7
  obtain ⟨v, us, rfl, h9⟩ := un_out h8
  obtain ⟨n141, rfl, h10⟩ := asI_out h9
  obtain ⟨v, us, rfl, h11⟩ := un_out h10
  obtain ⟨n142, rfl, h12⟩ := asI_out h11
  obtain ⟨v, us, rfl, h13⟩ := un_out h12
  obtain ⟨b143, rfl, h14⟩ := asB_out h13
  obtain ⟨rfl, h15⟩ := nl_out h14
  obtain ⟨rfl, h16⟩ := dn_out h15
  rw [← f22.J14_den D p137 b138 s139 l140 n141 n142 b143 Kn1 k w] at h16
  exact pc_wp Tryz.mixed f22.J14_okc h16
theorem f22.J13_den (D : Nat → Value) (p126 : Option Addr) (b127 : Bool) (s128 : ByteArray) (l129 : Sl) (n130 : Int) (n131 : Int) (b132 : Bool) (Kn1 : Option Addr → Bool → ByteArray → Sl → Int → World → Prop) (k : Value → World → Prop) (w : World) : pc Tryz.prog none (.seq (some (f22.J14p Kn1 k)) .none .none) (codeAt f22.body [1, 1, 1, 0, 1, 0, 0, 1, 0, 0, 1, 1, 1]) (f22.Q2 Kn1 k) D 95 [94, 93, 89, 88, 87, 86, 85] [.pointer p126, .bool b127, .string s128, slv l129, .int .i64 n130, .int .u8 n131, .bool b132] [] w = f22.J13 p126 b127 s128 l129 n130 n131 b132 Kn1 k w := by kernel_rfl
theorem f22.J13_okc {Kn1 : Option Addr → Bool → ByteArray → Sl → Int → World → Prop} {k : Value → World → Prop} : okC Tryz.prog none (.seq (some (f22.J14p Kn1 k)) .none .none) (codeAt f22.body [1, 1, 1, 0, 1, 0, 0, 1, 0, 0, 1, 1, 1]) (f22.Q2 Kn1 k) :=
  Eq.mpr (by kernel_rfl : okC Tryz.prog none (.seq (some (f22.J14p Kn1 k)) .none .none) (codeAt f22.body [1, 1, 1, 0, 1, 0, 0, 1, 0, 0, 1, 1, 1]) (f22.Q2 Kn1 k) = (((True) ∧ OKJ Tryz.prog none (f22.J14p Kn1 k) (codeAt f22.body [1, 1, 1, 0, 1, 0, 0, 1, 0, 0, 1, 1, 1, 1]) (f22.Q2 Kn1 k)))) (⟨trivial, f22.J14_ok⟩)
theorem f22.J13_ok {Kn1 : Option Addr → Bool → ByteArray → Sl → Int → World → Prop} {k : Value → World → Prop} : OKJ Tryz.prog none (f22.J13p Kn1 k) (codeAt f22.body [1, 1, 1, 0, 1, 0, 0, 1, 0, 0, 1, 1, 1]) (f22.Q2 Kn1 k) := by
  intro a w h
  obtain ⟨D, us, ds, rfl, h0⟩ := PJ_out h
  obtain ⟨v, us, rfl, h1⟩ := un_out h0
  obtain ⟨p126, rfl, h2⟩ := asP_out h1
  obtain ⟨v, us, rfl, h3⟩ := un_out h2
  obtain ⟨b127, rfl, h4⟩ := asB_out h3
  obtain ⟨v, us, rfl, h5⟩ := un_out h4
  obtain ⟨s128, rfl, h6⟩ := asStr_out h5
  obtain ⟨v, us, rfl, h7⟩ := un_out h6
  obtain ⟨l129, rfl, h8⟩ := asS_out h7
  obtain ⟨v, us, rfl, h9⟩ := un_out h8
  obtain ⟨n130, rfl, h10⟩ := asI_out h9
  obtain ⟨v, us, rfl, h11⟩ := un_out h10
  obtain ⟨n131, rfl, h12⟩ := asI_out h11
  obtain ⟨v, us, rfl, h13⟩ := un_out h12
  obtain ⟨b132, rfl, h14⟩ := asB_out h13
  obtain ⟨rfl, h15⟩ := nl_out h14
  obtain ⟨rfl, h16⟩ := dn_out h15
  rw [← f22.J13_den D p126 b127 s128 l129 n130 n131 b132 Kn1 k w] at h16
  exact pc_wp Tryz.mixed f22.J13_okc h16
theorem f22.J18_den (D : Nat → Value) (p183 : Option Addr) (b184 : Bool) (s185 : ByteArray) (l186 : Sl) (n187 : Int) (n188 : Int) (b189 : Bool) (Kn1 : Option Addr → Bool → ByteArray → Sl → Int → World → Prop) (k : Value → World → Prop) (w : World) : pc Tryz.prog none .none (codeAt f22.body [1, 1, 1, 0, 1, 0, 0, 1, 0, 0, 1, 1, 1, 1, 1]) (f22.Q2 Kn1 k) D 95 [94, 93, 89, 88, 87, 86, 85] [.pointer p183, .bool b184, .string s185, slv l186, .int .i64 n187, .int .u8 n188, .bool b189] [] w = f22.J18 p183 b184 s185 l186 n187 n188 b189 Kn1 k w := by kernel_rfl
theorem f22.J18_okc {Kn1 : Option Addr → Bool → ByteArray → Sl → Int → World → Prop} {k : Value → World → Prop} : okC Tryz.prog none .none (codeAt f22.body [1, 1, 1, 0, 1, 0, 0, 1, 0, 0, 1, 1, 1, 1, 1]) (f22.Q2 Kn1 k) :=
  Eq.mpr (by kernel_rfl : okC Tryz.prog none .none (codeAt f22.body [1, 1, 1, 0, 1, 0, 0, 1, 0, 0, 1, 1, 1, 1, 1]) (f22.Q2 Kn1 k) = (True)) (trivial)
theorem f22.J18_ok {Kn1 : Option Addr → Bool → ByteArray → Sl → Int → World → Prop} {k : Value → World → Prop} : OKJ Tryz.prog none (f22.J18p Kn1 k) (codeAt f22.body [1, 1, 1, 0, 1, 0, 0, 1, 0, 0, 1, 1, 1, 1, 1]) (f22.Q2 Kn1 k) := by
  intro a w h
  obtain ⟨D, us, ds, rfl, h0⟩ := PJ_out h
  obtain ⟨v, us, rfl, h1⟩ := un_out h0
  obtain ⟨p183, rfl, h2⟩ := asP_out h1
  obtain ⟨v, us, rfl, h3⟩ := un_out h2
  obtain ⟨b184, rfl, h4⟩ := asB_out h3
  obtain ⟨v, us, rfl, h5⟩ := un_out h4
  obtain ⟨s185, rfl, h6⟩ := asStr_out h5
  obtain ⟨v, us, rfl, h7⟩ := un_out h6
  obtain ⟨l186, rfl, h8⟩ := asS_out h7
  obtain ⟨v, us, rfl, h9⟩ := un_out h8
  obtain ⟨n187, rfl, h10⟩ := asI_out h9
  obtain ⟨v, us, rfl, h11⟩ := un_out h10
  obtain ⟨n188, rfl, h12⟩ := asI_out h11
  obtain ⟨v, us, rfl, h13⟩ := un_out h12
  obtain ⟨b189, rfl, h14⟩ := asB_out h13
  obtain ⟨rfl, h15⟩ := nl_out h14
  obtain ⟨rfl, h16⟩ := dn_out h15
  rw [← f22.J18_den D p183 b184 s185 l186 n187 n188 b189 Kn1 k w] at h16
  exact pc_wp Tryz.mixed f22.J18_okc h16
theorem f22.J17_den (D : Nat → Value) (p174 : Option Addr) (b175 : Bool) (s176 : ByteArray) (l177 : Sl) (n178 : Int) (n179 : Int) (b180 : Bool) (Kn1 : Option Addr → Bool → ByteArray → Sl → Int → World → Prop) (k : Value → World → Prop) (w : World) : pc Tryz.prog none (.seq (some (f22.J18p Kn1 k)) .none .none) (codeAt f22.body [1, 1, 1, 0, 1, 0, 0, 1, 0, 0, 1, 1, 1, 1]) (f22.Q2 Kn1 k) D 95 [94, 93, 89, 88, 87, 86, 85] [.pointer p174, .bool b175, .string s176, slv l177, .int .i64 n178, .int .u8 n179, .bool b180] [] w = f22.J17 p174 b175 s176 l177 n178 n179 b180 Kn1 k w := by kernel_rfl
theorem f22.J17_okc {Kn1 : Option Addr → Bool → ByteArray → Sl → Int → World → Prop} {k : Value → World → Prop} : okC Tryz.prog none (.seq (some (f22.J18p Kn1 k)) .none .none) (codeAt f22.body [1, 1, 1, 0, 1, 0, 0, 1, 0, 0, 1, 1, 1, 1]) (f22.Q2 Kn1 k) :=
  Eq.mpr (by kernel_rfl : okC Tryz.prog none (.seq (some (f22.J18p Kn1 k)) .none .none) (codeAt f22.body [1, 1, 1, 0, 1, 0, 0, 1, 0, 0, 1, 1, 1, 1]) (f22.Q2 Kn1 k) = (((True) ∧ OKJ Tryz.prog none (f22.J18p Kn1 k) (codeAt f22.body [1, 1, 1, 0, 1, 0, 0, 1, 0, 0, 1, 1, 1, 1, 1]) (f22.Q2 Kn1 k)))) (⟨trivial, f22.J18_ok⟩)
theorem f22.J17_ok {Kn1 : Option Addr → Bool → ByteArray → Sl → Int → World → Prop} {k : Value → World → Prop} : OKJ Tryz.prog none (f22.J17p Kn1 k) (codeAt f22.body [1, 1, 1, 0, 1, 0, 0, 1, 0, 0, 1, 1, 1, 1]) (f22.Q2 Kn1 k) := by
  intro a w h
  obtain ⟨D, us, ds, rfl, h0⟩ := PJ_out h
  obtain ⟨v, us, rfl, h1⟩ := un_out h0
  obtain ⟨p174, rfl, h2⟩ := asP_out h1
  obtain ⟨v, us, rfl, h3⟩ := un_out h2
  obtain ⟨b175, rfl, h4⟩ := asB_out h3
  obtain ⟨v, us, rfl, h5⟩ := un_out h4
  obtain ⟨s176, rfl, h6⟩ := asStr_out h5
  obtain ⟨v, us, rfl, h7⟩ := un_out h6
  obtain ⟨l177, rfl, h8⟩ := asS_out h7
  obtain ⟨v, us, rfl, h9⟩ := un_out h8
  obtain ⟨n178, rfl, h10⟩ := asI_out h9
  obtain ⟨v, us, rfl, h11⟩ := un_out h10
  obtain ⟨n179, rfl, h12⟩ := asI_out h11
  obtain ⟨v, us, rfl, h13⟩ := un_out h12
  obtain ⟨b180, rfl, h14⟩ := asB_out h13
  obtain ⟨rfl, h15⟩ := nl_out h14
  obtain ⟨rfl, h16⟩ := dn_out h15
  rw [← f22.J17_den D p174 b175 s176 l177 n178 n179 b180 Kn1 k w] at h16
  exact pc_wp Tryz.mixed f22.J17_okc h16
theorem f22.J16_den (D : Nat → Value) (p163 : Option Addr) (b164 : Bool) (s165 : ByteArray) (l166 : Sl) (n167 : Int) (n168 : Int) (b169 : Bool) (Kn1 : Option Addr → Bool → ByteArray → Sl → Int → World → Prop) (k : Value → World → Prop) (w : World) : pc Tryz.prog none (.seq (some (f22.J17p Kn1 k)) .none .none) (codeAt f22.body [1, 1, 1, 0, 1, 0, 0, 1, 0, 0, 1, 1, 1]) (f22.Q2 Kn1 k) D 95 [94, 93, 89, 88, 87, 86, 85] [.pointer p163, .bool b164, .string s165, slv l166, .int .i64 n167, .int .u8 n168, .bool b169] [] w = f22.J16 p163 b164 s165 l166 n167 n168 b169 Kn1 k w := by kernel_rfl
theorem f22.J16_okc {Kn1 : Option Addr → Bool → ByteArray → Sl → Int → World → Prop} {k : Value → World → Prop} : okC Tryz.prog none (.seq (some (f22.J17p Kn1 k)) .none .none) (codeAt f22.body [1, 1, 1, 0, 1, 0, 0, 1, 0, 0, 1, 1, 1]) (f22.Q2 Kn1 k) :=
  Eq.mpr (by kernel_rfl : okC Tryz.prog none (.seq (some (f22.J17p Kn1 k)) .none .none) (codeAt f22.body [1, 1, 1, 0, 1, 0, 0, 1, 0, 0, 1, 1, 1]) (f22.Q2 Kn1 k) = (((True) ∧ OKJ Tryz.prog none (f22.J17p Kn1 k) (codeAt f22.body [1, 1, 1, 0, 1, 0, 0, 1, 0, 0, 1, 1, 1, 1]) (f22.Q2 Kn1 k)))) (⟨trivial, f22.J17_ok⟩)
theorem f22.J16_ok {Kn1 : Option Addr → Bool → ByteArray → Sl → Int → World → Prop} {k : Value → World → Prop} : OKJ Tryz.prog none (f22.J16p Kn1 k) (codeAt f22.body [1, 1, 1, 0, 1, 0, 0, 1, 0, 0, 1, 1, 1]) (f22.Q2 Kn1 k) := by
  intro a w h
  obtain ⟨D, us, ds, rfl, h0⟩ := PJ_out h
  obtain ⟨v, us, rfl, h1⟩ := un_out h0
  obtain ⟨p163, rfl, h2⟩ := asP_out h1
  obtain ⟨v, us, rfl, h3⟩ := un_out h2
  obtain ⟨b164, rfl, h4⟩ := asB_out h3
  obtain ⟨v, us, rfl, h5⟩ := un_out h4
  obtain ⟨s165, rfl, h6⟩ := asStr_out h5
  obtain ⟨v, us, rfl, h7⟩ := un_out h6
  obtain ⟨l166, rfl, h8⟩ := asS_out h7
  obtain ⟨v, us, rfl, h9⟩ := un_out h8
  obtain ⟨n167, rfl, h10⟩ := asI_out h9
  obtain ⟨v, us, rfl, h11⟩ := un_out h10
  obtain ⟨n168, rfl, h12⟩ := asI_out h11
  obtain ⟨v, us, rfl, h13⟩ := un_out h12
  obtain ⟨b169, rfl, h14⟩ := asB_out h13
  obtain ⟨rfl, h15⟩ := nl_out h14
  obtain ⟨rfl, h16⟩ := dn_out h15
  rw [← f22.J16_den D p163 b164 s165 l166 n167 n168 b169 Kn1 k w] at h16
  exact pc_wp Tryz.mixed f22.J16_okc h16
theorem f22.J21_den (D : Nat → Value) (p216 : Option Addr) (b217 : Bool) (s218 : ByteArray) (l219 : Sl) (n220 : Int) (n221 : Int) (b222 : Bool) (Kn1 : Option Addr → Bool → ByteArray → Sl → Int → World → Prop) (k : Value → World → Prop) (w : World) : pc Tryz.prog none .none (codeAt f22.body [1, 1, 1, 0, 1, 0, 0, 1, 0, 0, 1, 1, 1, 1, 1]) (f22.Q2 Kn1 k) D 95 [94, 93, 89, 88, 87, 86, 85] [.pointer p216, .bool b217, .string s218, slv l219, .int .i64 n220, .int .u8 n221, .bool b222] [] w = f22.J21 p216 b217 s218 l219 n220 n221 b222 Kn1 k w := by kernel_rfl
theorem f22.J21_okc {Kn1 : Option Addr → Bool → ByteArray → Sl → Int → World → Prop} {k : Value → World → Prop} : okC Tryz.prog none .none (codeAt f22.body [1, 1, 1, 0, 1, 0, 0, 1, 0, 0, 1, 1, 1, 1, 1]) (f22.Q2 Kn1 k) :=
  Eq.mpr (by kernel_rfl : okC Tryz.prog none .none (codeAt f22.body [1, 1, 1, 0, 1, 0, 0, 1, 0, 0, 1, 1, 1, 1, 1]) (f22.Q2 Kn1 k) = (True)) (trivial)
theorem f22.J21_ok {Kn1 : Option Addr → Bool → ByteArray → Sl → Int → World → Prop} {k : Value → World → Prop} : OKJ Tryz.prog none (f22.J21p Kn1 k) (codeAt f22.body [1, 1, 1, 0, 1, 0, 0, 1, 0, 0, 1, 1, 1, 1, 1]) (f22.Q2 Kn1 k) := by
  intro a w h
  obtain ⟨D, us, ds, rfl, h0⟩ := PJ_out h
  obtain ⟨v, us, rfl, h1⟩ := un_out h0
  obtain ⟨p216, rfl, h2⟩ := asP_out h1
  obtain ⟨v, us, rfl, h3⟩ := un_out h2
  obtain ⟨b217, rfl, h4⟩ := asB_out h3
  obtain ⟨v, us, rfl, h5⟩ := un_out h4
  obtain ⟨s218, rfl, h6⟩ := asStr_out h5
  obtain ⟨v, us, rfl, h7⟩ := un_out h6
  obtain ⟨l219, rfl, h8⟩ := asS_out h7
  obtain ⟨v, us, rfl, h9⟩ := un_out h8
  obtain ⟨n220, rfl, h10⟩ := asI_out h9
  obtain ⟨v, us, rfl, h11⟩ := un_out h10
  obtain ⟨n221, rfl, h12⟩ := asI_out h11
  obtain ⟨v, us, rfl, h13⟩ := un_out h12
  obtain ⟨b222, rfl, h14⟩ := asB_out h13
  obtain ⟨rfl, h15⟩ := nl_out h14
  obtain ⟨rfl, h16⟩ := dn_out h15
  rw [← f22.J21_den D p216 b217 s218 l219 n220 n221 b222 Kn1 k w] at h16
  exact pc_wp Tryz.mixed f22.J21_okc h16
theorem f22.J20_den (D : Nat → Value) (p207 : Option Addr) (b208 : Bool) (s209 : ByteArray) (l210 : Sl) (n211 : Int) (n212 : Int) (b213 : Bool) (Kn1 : Option Addr → Bool → ByteArray → Sl → Int → World → Prop) (k : Value → World → Prop) (w : World) : pc Tryz.prog none (.seq (some (f22.J21p Kn1 k)) .none .none) (codeAt f22.body [1, 1, 1, 0, 1, 0, 0, 1, 0, 0, 1, 1, 1, 1]) (f22.Q2 Kn1 k) D 95 [94, 93, 89, 88, 87, 86, 85] [.pointer p207, .bool b208, .string s209, slv l210, .int .i64 n211, .int .u8 n212, .bool b213] [] w = f22.J20 p207 b208 s209 l210 n211 n212 b213 Kn1 k w := by kernel_rfl
theorem f22.J20_okc {Kn1 : Option Addr → Bool → ByteArray → Sl → Int → World → Prop} {k : Value → World → Prop} : okC Tryz.prog none (.seq (some (f22.J21p Kn1 k)) .none .none) (codeAt f22.body [1, 1, 1, 0, 1, 0, 0, 1, 0, 0, 1, 1, 1, 1]) (f22.Q2 Kn1 k) :=
  Eq.mpr (by kernel_rfl : okC Tryz.prog none (.seq (some (f22.J21p Kn1 k)) .none .none) (codeAt f22.body [1, 1, 1, 0, 1, 0, 0, 1, 0, 0, 1, 1, 1, 1]) (f22.Q2 Kn1 k) = (((True) ∧ OKJ Tryz.prog none (f22.J21p Kn1 k) (codeAt f22.body [1, 1, 1, 0, 1, 0, 0, 1, 0, 0, 1, 1, 1, 1, 1]) (f22.Q2 Kn1 k)))) (⟨trivial, f22.J21_ok⟩)
theorem f22.J20_ok {Kn1 : Option Addr → Bool → ByteArray → Sl → Int → World → Prop} {k : Value → World → Prop} : OKJ Tryz.prog none (f22.J20p Kn1 k) (codeAt f22.body [1, 1, 1, 0, 1, 0, 0, 1, 0, 0, 1, 1, 1, 1]) (f22.Q2 Kn1 k) := by
  intro a w h
  obtain ⟨D, us, ds, rfl, h0⟩ := PJ_out h
  obtain ⟨v, us, rfl, h1⟩ := un_out h0
  obtain ⟨p207, rfl, h2⟩ := asP_out h1
  obtain ⟨v, us, rfl, h3⟩ := un_out h2
  obtain ⟨b208, rfl, h4⟩ := asB_out h3
  obtain ⟨v, us, rfl, h5⟩ := un_out h4
  obtain ⟨s209, rfl, h6⟩ := asStr_out h5
  obtain ⟨v, us, rfl, h7⟩ := un_out h6
  obtain ⟨l210, rfl, h8⟩ := asS_out h7
  obtain ⟨v, us, rfl, h9⟩ := un_out h8
  obtain ⟨n211, rfl, h10⟩ := asI_out h9
  obtain ⟨v, us, rfl, h11⟩ := un_out h10
  obtain ⟨n212, rfl, h12⟩ := asI_out h11
  obtain ⟨v, us, rfl, h13⟩ := un_out h12
  obtain ⟨b213, rfl, h14⟩ := asB_out h13
  obtain ⟨rfl, h15⟩ := nl_out h14
  obtain ⟨rfl, h16⟩ := dn_out h15
  rw [← f22.J20_den D p207 b208 s209 l210 n211 n212 b213 Kn1 k w] at h16
  exact pc_wp Tryz.mixed f22.J20_okc h16
theorem f22.J19_den (D : Nat → Value) (p196 : Option Addr) (b197 : Bool) (s198 : ByteArray) (l199 : Sl) (n200 : Int) (n201 : Int) (b202 : Bool) (Kn1 : Option Addr → Bool → ByteArray → Sl → Int → World → Prop) (k : Value → World → Prop) (w : World) : pc Tryz.prog none (.seq (some (f22.J20p Kn1 k)) .none .none) (codeAt f22.body [1, 1, 1, 0, 1, 0, 0, 1, 0, 0, 1, 1, 1]) (f22.Q2 Kn1 k) D 95 [94, 93, 89, 88, 87, 86, 85] [.pointer p196, .bool b197, .string s198, slv l199, .int .i64 n200, .int .u8 n201, .bool b202] [] w = f22.J19 p196 b197 s198 l199 n200 n201 b202 Kn1 k w := by kernel_rfl
theorem f22.J19_okc {Kn1 : Option Addr → Bool → ByteArray → Sl → Int → World → Prop} {k : Value → World → Prop} : okC Tryz.prog none (.seq (some (f22.J20p Kn1 k)) .none .none) (codeAt f22.body [1, 1, 1, 0, 1, 0, 0, 1, 0, 0, 1, 1, 1]) (f22.Q2 Kn1 k) :=
  Eq.mpr (by kernel_rfl : okC Tryz.prog none (.seq (some (f22.J20p Kn1 k)) .none .none) (codeAt f22.body [1, 1, 1, 0, 1, 0, 0, 1, 0, 0, 1, 1, 1]) (f22.Q2 Kn1 k) = (((True) ∧ OKJ Tryz.prog none (f22.J20p Kn1 k) (codeAt f22.body [1, 1, 1, 0, 1, 0, 0, 1, 0, 0, 1, 1, 1, 1]) (f22.Q2 Kn1 k)))) (⟨trivial, f22.J20_ok⟩)
theorem f22.J19_ok {Kn1 : Option Addr → Bool → ByteArray → Sl → Int → World → Prop} {k : Value → World → Prop} : OKJ Tryz.prog none (f22.J19p Kn1 k) (codeAt f22.body [1, 1, 1, 0, 1, 0, 0, 1, 0, 0, 1, 1, 1]) (f22.Q2 Kn1 k) := by
  intro a w h
  obtain ⟨D, us, ds, rfl, h0⟩ := PJ_out h
  obtain ⟨v, us, rfl, h1⟩ := un_out h0
  obtain ⟨p196, rfl, h2⟩ := asP_out h1
  obtain ⟨v, us, rfl, h3⟩ := un_out h2
  obtain ⟨b197, rfl, h4⟩ := asB_out h3
  obtain ⟨v, us, rfl, h5⟩ := un_out h4
  obtain ⟨s198, rfl, h6⟩ := asStr_out h5
  obtain ⟨v, us, rfl, h7⟩ := un_out h6
  obtain ⟨l199, rfl, h8⟩ := asS_out h7
  obtain ⟨v, us, rfl, h9⟩ := un_out h8
  obtain ⟨n200, rfl, h10⟩ := asI_out h9
  obtain ⟨v, us, rfl, h11⟩ := un_out h10
  obtain ⟨n201, rfl, h12⟩ := asI_out h11
  obtain ⟨v, us, rfl, h13⟩ := un_out h12
  obtain ⟨b202, rfl, h14⟩ := asB_out h13
  obtain ⟨rfl, h15⟩ := nl_out h14
  obtain ⟨rfl, h16⟩ := dn_out h15
  rw [← f22.J19_den D p196 b197 s198 l199 n200 n201 b202 Kn1 k w] at h16
  exact pc_wp Tryz.mixed f22.J19_okc h16
theorem f22.J1_den (D : Nat → Value) (s229 : ByteArray) (l230 : Sl) (k : Value → World → Prop) (w : World) : pc Tryz.prog none .none (codeAt f22.body [1, 1, 1, 1]) (f22.Q4 k) D 95 [89, 88] [.string s229, slv l230] [] w = f22.J1 s229 l230 k w := by kernel_rfl
theorem f22.J1_okc {k : Value → World → Prop} : okC Tryz.prog none .none (codeAt f22.body [1, 1, 1, 1]) (f22.Q4 k) :=
  Eq.mpr (by kernel_rfl : okC Tryz.prog none .none (codeAt f22.body [1, 1, 1, 1]) (f22.Q4 k) = (True)) (trivial)
theorem f22.J1_ok {k : Value → World → Prop} : OKJ Tryz.prog none (f22.J1p k) (codeAt f22.body [1, 1, 1, 1]) (f22.Q4 k) := by
  intro a w h
  obtain ⟨D, us, ds, rfl, h0⟩ := PJ_out h
  obtain ⟨v, us, rfl, h1⟩ := un_out h0
  obtain ⟨s229, rfl, h2⟩ := asStr_out h1
  obtain ⟨v, us, rfl, h3⟩ := un_out h2
  obtain ⟨l230, rfl, h4⟩ := asS_out h3
  obtain ⟨rfl, h5⟩ := nl_out h4
  obtain ⟨rfl, h6⟩ := dn_out h5
  rw [← f22.J1_den D s229 l230 k w] at h6
  exact pc_wp Tryz.mixed f22.J1_okc h6
theorem f22.L2_next {p4 : Option Addr} {b5 : Bool} {I : ByteArray → Sl → Int → World → Prop} {μ : ByteArray → Sl → Int → World → Nat} {m : Nat} {s6 : ByteArray} {l7 : Sl} {n8 : Int} {w : World} (hI : I s6 l7 n8 w) (hlt : μ s6 l7 n8 w < m) : f22.L2K p4 b5 I μ m p4 b5 s6 l7 n8 w := ⟨⟨rfl, rfl⟩, hI, hlt⟩
theorem f22.L2_den (D : Nat → Value) (p4 : Option Addr) (b5 : Bool) (s6 : ByteArray) (l7 : Sl) (n8 : Int) (Kn1 : Option Addr → Bool → ByteArray → Sl → Int → World → Prop) (k : Value → World → Prop) (w : World) : pc Tryz.prog none (.seq none .none (.seq (some (f22.J3p Kn1 k)) (.block (.seq none .none (.seq none .none (.seq (some (f22.J19p Kn1 k)) .none .none)))) .none)) (codeAt f22.body [1, 1, 1, 0, 1, 0, 0]) (Exit.then (f22.L2k Kn1) (f22.Q1 k)) D 95 [94, 93, 89, 88, 87] [.pointer p4, .bool b5, .string s6, slv l7, .int .i64 n8] [] w = f22.L2 p4 b5 s6 l7 n8 Kn1 k w := by kernel_rfl
theorem f22.L2_okc {Kn1 : Option Addr → Bool → ByteArray → Sl → Int → World → Prop} {k : Value → World → Prop} : okC Tryz.prog none (.seq none .none (.seq (some (f22.J3p Kn1 k)) (.block (.seq none .none (.seq none .none (.seq (some (f22.J19p Kn1 k)) .none .none)))) .none)) (codeAt f22.body [1, 1, 1, 0, 1, 0, 0]) (Exit.then (f22.L2k Kn1) (f22.Q1 k)) :=
  Eq.mpr (by kernel_rfl : okC Tryz.prog none (.seq none .none (.seq (some (f22.J3p Kn1 k)) (.block (.seq none .none (.seq none .none (.seq (some (f22.J19p Kn1 k)) .none .none)))) .none)) (codeAt f22.body [1, 1, 1, 0, 1, 0, 0]) (Exit.then (f22.L2k Kn1) (f22.Q1 k)) = (((True) ∧ (((((True) ∧ (((True) ∧ (((True) ∧ OKJ Tryz.prog none (f22.J19p Kn1 k) (codeAt f22.body [1, 1, 1, 0, 1, 0, 0, 1, 0, 0, 1, 1, 1]) (f22.Q2 Kn1 k))))))) ∧ OKJ Tryz.prog none (f22.J3p Kn1 k) (codeAt f22.body [1, 1, 1, 0, 1, 0, 0, 1, 1]) (f22.Q3 Kn1 k)))))) (⟨trivial, ⟨⟨trivial, ⟨trivial, ⟨trivial, f22.J19_ok⟩⟩⟩, f22.J3_ok⟩⟩)
theorem f22.L2_ok {k : Value → World → Prop} : OKJ Tryz.prog none (f22.L2p k) (codeAt f22.body [1, 1, 1, 0, 1, 0]) (f22.Q1 k) := by
  intro a w h
  obtain ⟨D, us, ds, rfl, h0⟩ := PJ_out h
  obtain ⟨v, us, rfl, h1⟩ := un_out h0
  obtain ⟨p4, rfl, h2⟩ := asP_out h1
  obtain ⟨v, us, rfl, h3⟩ := un_out h2
  obtain ⟨b5, rfl, h4⟩ := asB_out h3
  obtain ⟨v, us, rfl, h5⟩ := un_out h4
  obtain ⟨s6, rfl, h6⟩ := asStr_out h5
  obtain ⟨v, us, rfl, h7⟩ := un_out h6
  obtain ⟨l7, rfl, h8⟩ := asS_out h7
  obtain ⟨v, us, rfl, h9⟩ := un_out h8
  obtain ⟨n8, rfl, h10⟩ := asI_out h9
  obtain ⟨rfl, h11⟩ := nl_out h10
  obtain ⟨rfl, h12⟩ := dn_out h11
  rw [show (codeAt f22.body [1, 1, 1, 0, 1, 0]) = Code.loop (codeAt f22.body [1, 1, 1, 0, 1, 0, 0]) by kernel_rfl]
  exact h12 D
theorem f22.L2_rule {p4 : Option Addr} {b5 : Bool} {k : Value → World → Prop} (I : ByteArray → Sl → Int → World → Prop) (μ : ByteArray → Sl → Int → World → Nat) {s6 : ByteArray} {l7 : Sl} {n8 : Int} {w : World} (h0 : I s6 l7 n8 w)
    (hr : ∀ (s6 : ByteArray) (l7 : Sl) (n8 : Int) (w : World), I s6 l7 n8 w → f22.L2 p4 b5 s6 l7 n8 (f22.L2K p4 b5 I μ (μ s6 l7 n8 w)) k w) : f22.L2lp p4 b5 s6 l7 n8 k w := by
  intro D0
  refine loop_ind (P := Tryz.prog) (fun m a w => ∃ s6 : ByteArray, ∃ l7 : Sl, ∃ n8 : Int, ∃ D : Nat → Value, a = fr D 95 [94, 93, 89, 88, 87] [.pointer p4, .bool b5, .string s6, slv l7, .int .i64 n8] [] ∧ I s6 l7 n8 w ∧ μ s6 l7 n8 w = m) ?_ (μ s6 l7 n8 w) ⟨_, _, _, D0, rfl, h0, rfl⟩
  rintro m a w ⟨s6, l7, n8, D, rfl, hI, rfl⟩
  have h := hr s6 l7 n8 w hI
  rw [← f22.L2_den D p4 b5 s6 l7 n8 (f22.L2K p4 b5 I μ (μ s6 l7 n8 w)) k w] at h
  refine then_mono (pc_wp Tryz.mixed f22.L2_okc h) ?_
  clear h
  intro a w h
  obtain ⟨D, us, ds, rfl, h0⟩ := PJ_out h
  obtain ⟨v, us, rfl, h1⟩ := un_out h0
  obtain ⟨p4', rfl, h2⟩ := asP_out h1
  obtain ⟨v, us, rfl, h3⟩ := un_out h2
  obtain ⟨b5', rfl, h4⟩ := asB_out h3
  obtain ⟨v, us, rfl, h5⟩ := un_out h4
  obtain ⟨s6', rfl, h6⟩ := asStr_out h5
  obtain ⟨v, us, rfl, h7⟩ := un_out h6
  obtain ⟨l7', rfl, h8⟩ := asS_out h7
  obtain ⟨v, us, rfl, h9⟩ := un_out h8
  obtain ⟨n8', rfl, h10⟩ := asI_out h9
  obtain ⟨rfl, h11⟩ := nl_out h10
  obtain ⟨rfl, h12⟩ := dn_out h11
  obtain ⟨⟨rfl, rfl⟩, hI, hlt⟩ := h12
  exact ⟨_, hlt, _, _, _, D, rfl, hI, rfl⟩
def f22.b (p1 : Option Addr) (b2 : Bool) (k : Value → World → Prop) (w : World) : Prop :=
  AL (.cells #[.string (⟨#[]⟩ : ByteArray)] 9) (fun q3 w => f22.L2lp p1 b2 (⟨#[43]⟩ : ByteArray) ((some ⟨q3, 0, none⟩), 1, 1) 0 k w) w
theorem f22.den (p1 : Option Addr) (b2 : Bool) (k : Value → World → Prop) (w : World) : pc Tryz.prog none (.seq none .none (.seq none .none (.seq none .none (.seq (some (f22.J1p k)) (.seq none .none (.block (.at (f22.L2p k)))) .none)))) f22.body (retQ Tryz.prog [.tmp 4] k) (fun _ => undef) 95 [94, 93] [.pointer p1, .bool b2] [] w = f22.b p1 b2 k w := by kernel_rfl
theorem f22.okc {k : Value → World → Prop} : okC Tryz.prog none (.seq none .none (.seq none .none (.seq none .none (.seq (some (f22.J1p k)) (.seq none .none (.block (.at (f22.L2p k)))) .none)))) f22.body (retQ Tryz.prog [.tmp 4] k) :=
  Eq.mpr (by kernel_rfl : okC Tryz.prog none (.seq none .none (.seq none .none (.seq none .none (.seq (some (f22.J1p k)) (.seq none .none (.block (.at (f22.L2p k)))) .none)))) f22.body (retQ Tryz.prog [.tmp 4] k) = (((True) ∧ (((True) ∧ (((True) ∧ (((((True) ∧ (OKJ Tryz.prog none (f22.L2p k) (codeAt f22.body [1, 1, 1, 0, 1, 0]) (f22.Q1 k)))) ∧ OKJ Tryz.prog none (f22.J1p k) (codeAt f22.body [1, 1, 1, 1]) (f22.Q4 k)))))))))) (⟨trivial, ⟨trivial, ⟨trivial, ⟨⟨trivial, f22.L2_ok⟩, f22.J1_ok⟩⟩⟩⟩)
theorem f22.call {p1 : Option Addr} {b2 : Bool} {k : Value → World → Prop} {w : World} (h : f22.b p1 b2 k w) : CALL Tryz.prog 22 #[.pointer p1, .bool b2] k w :=
  calls_of_pc Tryz.mixed Tryz.func22 (by kernel_rfl : Tryz.f22.body = some f22.body) (Tryz.call22 _ _) (by kernel_rfl : #[.pointer p1, .bool b2] ++ Array.replicate (Tryz.f22.ntmps - (#[.pointer p1, .bool b2] : Array Value).size) undef = (FR (fun _ => undef) 95 [94, 93] [.pointer p1, .bool b2]).toArray) (by kernel_rfl : Tryz.f22.results.toList = [.tmp 4]) f22.okc ((f22.den p1 b2 k w).symm ▸ h)

/-! (*rollcall/room.Room).MaySpeak -/
noncomputable def f25.body : Code := (Tryz.f25.body).getD .skip
def f25.Q1 (k : Value → World → Prop) : Exit → Act → World → Prop := (Exit.then (den Tryz.prog none (codeAt f25.body [1, 1, 1, 1, 1]) (retQ Tryz.prog [.tmp 6] k)) (retQ Tryz.prog [.tmp 6] k))
def f25.O3 (p20 : Option Addr) (s21 : ByteArray) (b22 : Bool) (k : Value → World → Prop) (w : World) : Prop :=
  brK b22 (NN p20 (fun a23 => LD slv (Addr.add a23 7) (fun l24 w => CALL Tryz.prog 50 #[.string s21, slv l24] (fun v25 w => ∃ b26 : Bool, v25 = .bool b26 ∧ k (.bool (!b26)) w) w) w)) (k (.bool false) w)
def f25.O3p (k : Value → World → Prop) : Act → World → Prop := PJ 49 [48, 46, 8] fun us ds w => un us fun v us => asP v fun p20 => un us fun v us => asStr v fun s21 => un us fun v us => asB v fun b22 => nl us (dn ds (f25.O3 p20 s21 b22 k w))
def f25.O2 (p15 : Option Addr) (s16 : ByteArray) (b17 : Bool) (k : Value → World → Prop) (w : World) : Prop :=
  brK b17 (NN p15 (fun a18 => LD (Value.int .i64) (Addr.add a18 4) (fun n19 w => f25.O3 p15 s16 ((intBit .and .i64 n19 2) == 0) k w) w)) (f25.O3 p15 s16 false k w)
def f25.O2p (k : Value → World → Prop) : Act → World → Prop := PJ 49 [48, 46, 16] fun us ds w => un us fun v us => asP v fun p15 => un us fun v us => asStr v fun s16 => un us fun v us => asB v fun b17 => nl us (dn ds (f25.O2 p15 s16 b17 k w))
def f25.O1 (p12 : Option Addr) (s13 : ByteArray) (b14 : Bool) (k : Value → World → Prop) (w : World) : Prop :=
  brK b14 (f25.O2 p12 s13 true k w) (NN p12 (fun a27 => LD (Value.int .i64) (Addr.add a27 4) (fun n28 w => f25.O2 p12 s13 ((intBit .and .i64 n28 4) == 0) k w) w))
def f25.O1p (k : Value → World → Prop) : Act → World → Prop := PJ 49 [48, 46, 24] fun us ds w => un us fun v us => asP v fun p12 => un us fun v us => asStr v fun s13 => un us fun v us => asB v fun b14 => nl us (dn ds (f25.O1 p12 s13 b14 k w))
theorem f25.O3_den (D : Nat → Value) (p20 : Option Addr) (s21 : ByteArray) (b22 : Bool) (k : Value → World → Prop) (w : World) : (spK (FR D 49 [48, 46, 8] [.pointer p20, .string s21, .bool b22]) fun l => denOps Tryz.prog (opsAt (codeAt f25.body [1, 1, 1, 1, 0])) ((f25.Q1 k) .normal) (((opsAt (codeAt f25.body [1, 1, 1, 1, 0])).toList.drop 18).take 9) { tmps := l.toArray, defers := [] } w) = f25.O3 p20 s21 b22 k w := by kernel_rfl
theorem f25.O3_ok {k : Value → World → Prop} : OKR Tryz.prog none (opsAt (codeAt f25.body [1, 1, 1, 1, 0])) (f25.O3p k) 18 (f25.Q1 k) := by
  intro a w h
  obtain ⟨D, us, ds, rfl, h0⟩ := PJ_out h
  obtain ⟨v, us, rfl, h1⟩ := un_out h0
  obtain ⟨p20, rfl, h2⟩ := asP_out h1
  obtain ⟨v, us, rfl, h3⟩ := un_out h2
  obtain ⟨s21, rfl, h4⟩ := asStr_out h3
  obtain ⟨v, us, rfl, h5⟩ := un_out h4
  obtain ⟨b22, rfl, h6⟩ := asB_out h5
  obtain ⟨rfl, h7⟩ := nl_out h6
  obtain ⟨rfl, h8⟩ := dn_out h7
  rw [← f25.O3_den D p20 s21 b22 k w] at h8
  exact okr_of (m := 9) (okr_end (by kernel_rfl)) h8
theorem f25.O2_den (D : Nat → Value) (p15 : Option Addr) (s16 : ByteArray) (b17 : Bool) (k : Value → World → Prop) (w : World) : (spK (FR D 49 [48, 46, 16] [.pointer p15, .string s16, .bool b17]) fun l => denOps Tryz.prog (opsAt (codeAt f25.body [1, 1, 1, 1, 0])) (f25.O3p k) (((opsAt (codeAt f25.body [1, 1, 1, 1, 0])).toList.drop 10).take 8) { tmps := l.toArray, defers := [] } w) = f25.O2 p15 s16 b17 k w := by kernel_rfl
theorem f25.O2_ok {k : Value → World → Prop} : OKR Tryz.prog none (opsAt (codeAt f25.body [1, 1, 1, 1, 0])) (f25.O2p k) 10 (f25.Q1 k) := by
  intro a w h
  obtain ⟨D, us, ds, rfl, h0⟩ := PJ_out h
  obtain ⟨v, us, rfl, h1⟩ := un_out h0
  obtain ⟨p15, rfl, h2⟩ := asP_out h1
  obtain ⟨v, us, rfl, h3⟩ := un_out h2
  obtain ⟨s16, rfl, h4⟩ := asStr_out h3
  obtain ⟨v, us, rfl, h5⟩ := un_out h4
  obtain ⟨b17, rfl, h6⟩ := asB_out h5
  obtain ⟨rfl, h7⟩ := nl_out h6
  obtain ⟨rfl, h8⟩ := dn_out h7
  rw [← f25.O2_den D p15 s16 b17 k w] at h8
  exact okr_of (m := 8) f25.O3_ok h8
theorem f25.O1_den (D : Nat → Value) (p12 : Option Addr) (s13 : ByteArray) (b14 : Bool) (k : Value → World → Prop) (w : World) : (spK (FR D 49 [48, 46, 24] [.pointer p12, .string s13, .bool b14]) fun l => denOps Tryz.prog (opsAt (codeAt f25.body [1, 1, 1, 1, 0])) (f25.O2p k) (((opsAt (codeAt f25.body [1, 1, 1, 1, 0])).toList.drop 2).take 8) { tmps := l.toArray, defers := [] } w) = f25.O1 p12 s13 b14 k w := by kernel_rfl
theorem f25.O1_ok {k : Value → World → Prop} : OKR Tryz.prog none (opsAt (codeAt f25.body [1, 1, 1, 1, 0])) (f25.O1p k) 2 (f25.Q1 k) := by
  intro a w h
  obtain ⟨D, us, ds, rfl, h0⟩ := PJ_out h
  obtain ⟨v, us, rfl, h1⟩ := un_out h0
  obtain ⟨p12, rfl, h2⟩ := asP_out h1
  obtain ⟨v, us, rfl, h3⟩ := un_out h2
  obtain ⟨s13, rfl, h4⟩ := asStr_out h3
  obtain ⟨v, us, rfl, h5⟩ := un_out h4
  obtain ⟨b14, rfl, h6⟩ := asB_out h5
  obtain ⟨rfl, h7⟩ := nl_out h6
  obtain ⟨rfl, h8⟩ := dn_out h7
  rw [← f25.O1_den D p12 s13 b14 k w] at h8
  exact okr_of (m := 8) f25.O2_ok h8
def f25.b (p1 : Option Addr) (n2 : Int) (s3 : ByteArray) (k : Value → World → Prop) (w : World) : Prop :=
  brK p1.isNone (k (.bool false) w) (CALL Tryz.prog 14 #[.pointer p1, .int .i64 n2] (fun v4 w => ∃ n5 : Int, ∃ b6 : Bool, ∃ b7 : Bool, ∃ b8 : Bool, v4 = .tuple #[.agg #[.int .i64 n5, .bool b6, .bool b7], .bool b8] ∧ AL (.cells #[.int .i64 0, .bool false, .bool false] 39) (fun q9 w => ST (Addr.add ⟨q9, 0, none⟩ 0) (.int .i64 n5) (fun w => ST (Addr.add ⟨q9, 0, none⟩ 1) (.bool b6) (fun w => ST (Addr.add ⟨q9, 0, none⟩ 2) (.bool b7) (fun w => LD Value.bool (Addr.add ⟨q9, 0, none⟩ 1) (fun b10 w => brK b10 (k (.bool true) w) (LD Value.bool (Addr.add ⟨q9, 0, none⟩ 2) (fun b11 w => brK b11 (k (.bool true) w) (f25.O1 p1 s3 b8 k w)) w)) w) w) w) w) w) w)
theorem f25.den (p1 : Option Addr) (n2 : Int) (s3 : ByteArray) (k : Value → World → Prop) (w : World) : pc Tryz.prog none (.seq none .none (.seq none .none (.seq none .none (.seq none .none (.seq none (.reg 2 (f25.O1p k)) .none))))) f25.body (retQ Tryz.prog [.tmp 6] k) (fun _ => undef) 49 [48, 47, 46] [.pointer p1, .int .i64 n2, .string s3] [] w = f25.b p1 n2 s3 k w := by kernel_rfl
theorem f25.okc {k : Value → World → Prop} : okC Tryz.prog none (.seq none .none (.seq none .none (.seq none .none (.seq none .none (.seq none (.reg 2 (f25.O1p k)) .none))))) f25.body (retQ Tryz.prog [.tmp 6] k) :=
  Eq.mpr (by kernel_rfl : okC Tryz.prog none (.seq none .none (.seq none .none (.seq none .none (.seq none .none (.seq none (.reg 2 (f25.O1p k)) .none))))) f25.body (retQ Tryz.prog [.tmp 6] k) = (((True) ∧ (((True) ∧ (((True) ∧ (((True) ∧ (((OKR Tryz.prog none (opsAt (codeAt f25.body [1, 1, 1, 1, 0])) (f25.O1p k) 2 (f25.Q1 k)) ∧ (True)))))))))))) (⟨trivial, ⟨trivial, ⟨trivial, ⟨trivial, ⟨f25.O1_ok, trivial⟩⟩⟩⟩⟩)
theorem f25.call {p1 : Option Addr} {n2 : Int} {s3 : ByteArray} {k : Value → World → Prop} {w : World} (h : f25.b p1 n2 s3 k w) : CALL Tryz.prog 25 #[.pointer p1, .int .i64 n2, .string s3] k w :=
  calls_of_pc Tryz.mixed Tryz.func25 (by kernel_rfl : Tryz.f25.body = some f25.body) (Tryz.call25 _ _) (by kernel_rfl : #[.pointer p1, .int .i64 n2, .string s3] ++ Array.replicate (Tryz.f25.ntmps - (#[.pointer p1, .int .i64 n2, .string s3] : Array Value).size) undef = (FR (fun _ => undef) 49 [48, 47, 46] [.pointer p1, .int .i64 n2, .string s3]).toArray) (by kernel_rfl : Tryz.f25.results.toList = [.tmp 6]) f25.okc ((f25.den p1 n2 s3 k w).symm ▸ h)

/-! rollcall/rollcallref04.Match -/
noncomputable def f26.body : Code := (Tryz.f26.body).getD .skip
def f26.J1 (s49 : ByteArray) (l50 : Sl) (k : Value → World → Prop) (w : World) : Prop :=
  IX l50 ((s49.size : Nat) : Int) 1 (fun a51 => LD Value.bool a51 (fun b52 w => k (.bool b52) w) w)
def f26.J1p (k : Value → World → Prop) : Act → World → Prop := PJ 87 [85, 81] fun us ds w => un us fun v us => asStr v fun s49 => un us fun v us => asS v fun l50 => nl us (dn ds (f26.J1 s49 l50 k w))
def f26.Q1 (k : Value → World → Prop) : Exit → Act → World → Prop := (Exit.inBlock 0 (Exit.then (f26.J1p k) (retQ Tryz.prog [.tmp 4] k)))
def f26.L2k (Kn1 : ByteArray → ByteArray → Sl → Int → World → Prop) : Act → World → Prop := PJ 87 [86, 85, 81, 80] fun us ds w => un us fun v us => asStr v fun s5 => un us fun v us => asStr v fun s6 => un us fun v us => asS v fun l7 => un us fun v us => asI .i64 v fun n8 => nl us (dn ds (Kn1 s5 s6 l7 n8 w))
def f26.J3 (s45 : ByteArray) (s46 : ByteArray) (l47 : Sl) (n48 : Int) (Kn1 : ByteArray → ByteArray → Sl → Int → World → Prop) (k : Value → World → Prop) (w : World) : Prop :=
  Kn1 s45 s46 l47 (IntKind.wrap .i64 (n48 + 1)) w
def f26.J4 (s41 : ByteArray) (s42 : ByteArray) (n43 : Int) (l44 : Sl) (Kn1 : ByteArray → ByteArray → Sl → Int → World → Prop) (k : Value → World → Prop) (w : World) : Prop :=
  f26.J3 s41 s42 l44 n43 Kn1 k w
def f26.J4p (Kn1 : ByteArray → ByteArray → Sl → Int → World → Prop) (k : Value → World → Prop) : Act → World → Prop := PJ 87 [86, 85, 80, 79] fun us ds w => un us fun v us => asStr v fun s41 => un us fun v us => asStr v fun s42 => un us fun v us => asI .i64 v fun n43 => un us fun v us => asS v fun l44 => nl us (dn ds (f26.J4 s41 s42 n43 l44 Kn1 k w))
def f26.J3p (Kn1 : ByteArray → ByteArray → Sl → Int → World → Prop) (k : Value → World → Prop) : Act → World → Prop := PJ 87 [86, 85, 81, 80] fun us ds w => un us fun v us => asStr v fun s45 => un us fun v us => asStr v fun s46 => un us fun v us => asS v fun l47 => un us fun v us => asI .i64 v fun n48 => nl us (dn ds (f26.J3 s45 s46 l47 n48 Kn1 k w))
def f26.Q2 (Kn1 : ByteArray → ByteArray → Sl → Int → World → Prop) (k : Value → World → Prop) : Exit → Act → World → Prop := (Exit.inBlock 2 (Exit.then (f26.J4p Kn1 k) (Exit.inBlock 1 (Exit.then (f26.J3p Kn1 k) (Exit.then (f26.L2k Kn1) (f26.Q1 k))))))
def f26.L5k (Kn2 : ByteArray → ByteArray → Sl → Int → Sl → Int → World → Prop) : Act → World → Prop := PJ 87 [86, 85, 81, 80, 79, 78] fun us ds w => un us fun v us => asStr v fun s10 => un us fun v us => asStr v fun s11 => un us fun v us => asS v fun l12 => un us fun v us => asI .i64 v fun n13 => un us fun v us => asS v fun l14 => un us fun v us => asI .i64 v fun n15 => nl us (dn ds (Kn2 s10 s11 l12 n13 l14 n15 w))
def f26.Q3 (Kn1 : ByteArray → ByteArray → Sl → Int → World → Prop) (Kn2 : ByteArray → ByteArray → Sl → Int → Sl → Int → World → Prop) (k : Value → World → Prop) : Exit → Act → World → Prop := (Exit.then (f26.L5k Kn2) (f26.Q2 Kn1 k))
def f26.J6 (s20 : ByteArray) (s21 : ByteArray) (l22 : Sl) (n23 : Int) (l24 : Sl) (n25 : Int) (Kn1 : ByteArray → ByteArray → Sl → Int → World → Prop) (Kn2 : ByteArray → ByteArray → Sl → Int → Sl → Int → World → Prop) (k : Value → World → Prop) (w : World) : Prop :=
  Kn2 s20 s21 l22 n23 l24 (IntKind.wrap .i64 (n25 + 1)) w
def f26.J6p (Kn1 : ByteArray → ByteArray → Sl → Int → World → Prop) (Kn2 : ByteArray → ByteArray → Sl → Int → Sl → Int → World → Prop) (k : Value → World → Prop) : Act → World → Prop := PJ 87 [86, 85, 81, 80, 79, 78] fun us ds w => un us fun v us => asStr v fun s20 => un us fun v us => asStr v fun s21 => un us fun v us => asS v fun l22 => un us fun v us => asI .i64 v fun n23 => un us fun v us => asS v fun l24 => un us fun v us => asI .i64 v fun n25 => nl us (dn ds (f26.J6 s20 s21 l22 n23 l24 n25 Kn1 Kn2 k w))
def f26.Q4 (Kn1 : ByteArray → ByteArray → Sl → Int → World → Prop) (k : Value → World → Prop) : Exit → Act → World → Prop := (Exit.inBlock 1 (Exit.then (f26.J3p Kn1 k) (Exit.then (f26.L2k Kn1) (f26.Q1 k))))
def f26.Q5 (Kn1 : ByteArray → ByteArray → Sl → Int → World → Prop) (k : Value → World → Prop) : Exit → Act → World → Prop := (Exit.then (f26.L2k Kn1) (f26.Q1 k))
def f26.L5 (s10 : ByteArray) (s11 : ByteArray) (l12 : Sl) (n13 : Int) (l14 : Sl) (n15 : Int) (Kn1 : ByteArray → ByteArray → Sl → Int → World → Prop) (Kn2 : ByteArray → ByteArray → Sl → Int → Sl → Int → World → Prop) (k : Value → World → Prop) (w : World) : Prop :=
  brK (decide (n15 ≤ ((s11.size : Nat) : Int))) (SIX s10 n13 (fun c16 => brK (c16 == 42) (IX l12 n15 1 (fun a17 => LD Value.bool a17 (fun b18 w => brK b18 (IX l14 n15 1 (fun a19 => ST (Addr.add a19 0) (.bool true) (fun w => f26.J6 s10 s11 l12 n13 l14 n15 Kn1 Kn2 k w) w)) (brK (decide ((0 : Int) < n15)) (IX l14 (IntKind.wrap .i64 (n15 - 1)) 1 (fun a26 => LD Value.bool a26 (fun b27 w => IX l14 n15 1 (fun a28 => ST (Addr.add a28 0) (.bool b27) (fun w => f26.J6 s10 s11 l12 n13 l14 n15 Kn1 Kn2 k w) w)) w)) (IX l14 n15 1 (fun a29 => ST (Addr.add a29 0) (.bool false) (fun w => f26.J6 s10 s11 l12 n13 l14 n15 Kn1 Kn2 k w) w)))) w)) (brK (decide ((0 : Int) < n15)) (IX l12 (IntKind.wrap .i64 (n15 - 1)) 1 (fun a30 => LD Value.bool a30 (fun b31 w => brK b31 (DR (fun w => SIX s10 n13 (fun c32 => brK (c32 == 63) (IX l14 n15 1 (fun a33 => ST (Addr.add a33 0) (.bool true) (fun w => f26.J6 s10 s11 l12 n13 l14 n15 Kn1 Kn2 k w) w)) (SIX s10 n13 (fun c34 => SIX s11 (IntKind.wrap .i64 (n15 - 1)) (fun c35 => CALL Tryz.prog 51 #[.int .u8 c34] (fun v36 w => ∃ n37 : Int, v36 = .int .u8 n37 ∧ CALL Tryz.prog 51 #[.int .u8 c35] (fun v38 w => ∃ n39 : Int, v38 = .int .u8 n39 ∧ IX l14 n15 1 (fun a40 => ST (Addr.add a40 0) (.bool (n37 == n39)) (fun w => f26.J6 s10 s11 l12 n13 l14 n15 Kn1 Kn2 k w) w)) w) w))))) w) (f26.J6 s10 s11 l12 n13 l14 n15 Kn1 Kn2 k w)) w)) (f26.J6 s10 s11 l12 n13 l14 n15 Kn1 Kn2 k w)))) (f26.J4 s10 s11 n13 l14 Kn1 k w)
def f26.L5lp (s10 : ByteArray) (s11 : ByteArray) (l12 : Sl) (n13 : Int) (l14 : Sl) (n15 : Int) (Kn1 : ByteArray → ByteArray → Sl → Int → World → Prop) (k : Value → World → Prop) (w : World) : Prop := ∀ D : Nat → Value, (Code.loop (codeAt f26.body [1, 1, 1, 0, 1, 0, 0, 1, 0, 0, 1, 0, 1, 0, 0])).wpIn (Wd none) 0 Tryz.prog (f26.Q2 Kn1 k) (fr D 87 [86, 85, 81, 80, 79, 78] [.string s10, .string s11, slv l12, .int .i64 n13, slv l14, .int .i64 n15] []) w
def f26.L5p (Kn1 : ByteArray → ByteArray → Sl → Int → World → Prop) (k : Value → World → Prop) : Act → World → Prop := PJ 87 [86, 85, 81, 80, 79, 78] fun us ds w => un us fun v us => asStr v fun s10 => un us fun v us => asStr v fun s11 => un us fun v us => asS v fun l12 => un us fun v us => asI .i64 v fun n13 => un us fun v us => asS v fun l14 => un us fun v us => asI .i64 v fun n15 => nl us (dn ds (f26.L5lp s10 s11 l12 n13 l14 n15 Kn1 k w))
def f26.L5K (s10 : ByteArray) (s11 : ByteArray) (l12 : Sl) (n13 : Int) (l14 : Sl) (I : Int → World → Prop) (μ : Int → World → Nat) (m : Nat) (s10' : ByteArray) (s11' : ByteArray) (l12' : Sl) (n13' : Int) (l14' : Sl) (n15' : Int) (w : World) : Prop := (s10' = s10 ∧ s11' = s11 ∧ l12' = l12 ∧ n13' = n13 ∧ l14' = l14) ∧ I n15' w ∧ μ n15' w < m
def f26.Q6 (k : Value → World → Prop) : Exit → Act → World → Prop := (retQ Tryz.prog [.tmp 4] k)
def f26.L2 (s5 : ByteArray) (s6 : ByteArray) (l7 : Sl) (n8 : Int) (Kn1 : ByteArray → ByteArray → Sl → Int → World → Prop) (k : Value → World → Prop) (w : World) : Prop :=
  brK (decide (n8 < ((s5.size : Nat) : Int))) (RQ (0 ≤ (IntKind.wrap .i64 (((s6.size : Nat) : Int) + 1) : Int) ∧ (IntKind.wrap .i64 (((s6.size : Nat) : Int) + 1) : Int) ≤ (IntKind.wrap .i64 (((s6.size : Nat) : Int) + 1) : Int) ∧ (IntKind.wrap .i64 (((s6.size : Nat) : Int) + 1) : Int) ≤ 9223372036854775807 ∧ ((1 : Nat) : Int) * (IntKind.wrap .i64 (((s6.size : Nat) : Int) + 1) : Int) ≤ 281474976710656) (AL (.cells (Builtin.zeroCells #[.bool false] (Int.toNat (IntKind.wrap .i64 (((s6.size : Nat) : Int) + 1) : Int))) 4) (fun q9 w => f26.L5lp s5 s6 l7 n8 ((some ⟨q9, 0, none⟩), (Int.toNat (IntKind.wrap .i64 (((s6.size : Nat) : Int) + 1) : Int)), (Int.toNat (IntKind.wrap .i64 (((s6.size : Nat) : Int) + 1) : Int))) 0 Kn1 k w) w)) (f26.J1 s6 l7 k w)
def f26.L2lp (s5 : ByteArray) (s6 : ByteArray) (l7 : Sl) (n8 : Int) (k : Value → World → Prop) (w : World) : Prop := ∀ D : Nat → Value, (Code.loop (codeAt f26.body [1, 1, 1, 0, 1, 0, 0])).wpIn (Wd none) 0 Tryz.prog (f26.Q1 k) (fr D 87 [86, 85, 81, 80] [.string s5, .string s6, slv l7, .int .i64 n8] []) w
def f26.L2p (k : Value → World → Prop) : Act → World → Prop := PJ 87 [86, 85, 81, 80] fun us ds w => un us fun v us => asStr v fun s5 => un us fun v us => asStr v fun s6 => un us fun v us => asS v fun l7 => un us fun v us => asI .i64 v fun n8 => nl us (dn ds (f26.L2lp s5 s6 l7 n8 k w))
def f26.L2K (s5 : ByteArray) (s6 : ByteArray) (I : Sl → Int → World → Prop) (μ : Sl → Int → World → Nat) (m : Nat) (s5' : ByteArray) (s6' : ByteArray) (l7' : Sl) (n8' : Int) (w : World) : Prop := (s5' = s5 ∧ s6' = s6) ∧ I l7' n8' w ∧ μ l7' n8' w < m
theorem f26.J6_den (D : Nat → Value) (s20 : ByteArray) (s21 : ByteArray) (l22 : Sl) (n23 : Int) (l24 : Sl) (n25 : Int) (Kn1 : ByteArray → ByteArray → Sl → Int → World → Prop) (Kn2 : ByteArray → ByteArray → Sl → Int → Sl → Int → World → Prop) (k : Value → World → Prop) (w : World) : pc Tryz.prog none .none (codeAt f26.body [1, 1, 1, 0, 1, 0, 0, 1, 0, 0, 1, 0, 1, 0, 0, 1, 1]) (f26.Q3 Kn1 Kn2 k) D 87 [86, 85, 81, 80, 79, 78] [.string s20, .string s21, slv l22, .int .i64 n23, slv l24, .int .i64 n25] [] w = f26.J6 s20 s21 l22 n23 l24 n25 Kn1 Kn2 k w := by kernel_rfl
theorem f26.J6_okc {Kn1 : ByteArray → ByteArray → Sl → Int → World → Prop} {Kn2 : ByteArray → ByteArray → Sl → Int → Sl → Int → World → Prop} {k : Value → World → Prop} : okC Tryz.prog none .none (codeAt f26.body [1, 1, 1, 0, 1, 0, 0, 1, 0, 0, 1, 0, 1, 0, 0, 1, 1]) (f26.Q3 Kn1 Kn2 k) :=
  Eq.mpr (by kernel_rfl : okC Tryz.prog none .none (codeAt f26.body [1, 1, 1, 0, 1, 0, 0, 1, 0, 0, 1, 0, 1, 0, 0, 1, 1]) (f26.Q3 Kn1 Kn2 k) = (True)) (trivial)
theorem f26.J6_ok {Kn1 : ByteArray → ByteArray → Sl → Int → World → Prop} {Kn2 : ByteArray → ByteArray → Sl → Int → Sl → Int → World → Prop} {k : Value → World → Prop} : OKJ Tryz.prog none (f26.J6p Kn1 Kn2 k) (codeAt f26.body [1, 1, 1, 0, 1, 0, 0, 1, 0, 0, 1, 0, 1, 0, 0, 1, 1]) (f26.Q3 Kn1 Kn2 k) := by
  intro a w h
  obtain ⟨D, us, ds, rfl, h0⟩ := PJ_out h
  obtain ⟨v, us, rfl, h1⟩ := un_out h0
  obtain ⟨s20, rfl, h2⟩ := asStr_out h1
  obtain ⟨v, us, rfl, h3⟩ := un_out h2
  obtain ⟨s21, rfl, h4⟩ := asStr_out h3
  obtain ⟨v, us, rfl, h5⟩ := un_out h4
  obtain ⟨l22, rfl, h6⟩ := asS_out h5
  obtain ⟨v, us, rfl, h7⟩ := un_out h6
  obtain ⟨n23, rfl, h8⟩ := asI_out h7
  obtain ⟨v, us, rfl, h9⟩ := un_out h8
  obtain ⟨l24, rfl, h10⟩ := asS_out h9
  obtain ⟨v, us, rfl, h11⟩ := un_out h10
  obtain ⟨n25, rfl, h12⟩ := asI_out h11
  obtain ⟨rfl, h13⟩ := nl_out h12
  obtain ⟨rfl, h14⟩ := dn_out h13
  rw [← f26.J6_den D s20 s21 l22 n23 l24 n25 Kn1 Kn2 k w] at h14
  exact pc_wp Tryz.mixed f26.J6_okc h14
theorem f26.J3_den (D : Nat → Value) (s45 : ByteArray) (s46 : ByteArray) (l47 : Sl) (n48 : Int) (Kn1 : ByteArray → ByteArray → Sl → Int → World → Prop) (k : Value → World → Prop) (w : World) : pc Tryz.prog none .none (codeAt f26.body [1, 1, 1, 0, 1, 0, 0, 1, 1]) (f26.Q5 Kn1 k) D 87 [86, 85, 81, 80] [.string s45, .string s46, slv l47, .int .i64 n48] [] w = f26.J3 s45 s46 l47 n48 Kn1 k w := by kernel_rfl
theorem f26.J3_okc {Kn1 : ByteArray → ByteArray → Sl → Int → World → Prop} {k : Value → World → Prop} : okC Tryz.prog none .none (codeAt f26.body [1, 1, 1, 0, 1, 0, 0, 1, 1]) (f26.Q5 Kn1 k) :=
  Eq.mpr (by kernel_rfl : okC Tryz.prog none .none (codeAt f26.body [1, 1, 1, 0, 1, 0, 0, 1, 1]) (f26.Q5 Kn1 k) = (True)) (trivial)
theorem f26.J3_ok {Kn1 : ByteArray → ByteArray → Sl → Int → World → Prop} {k : Value → World → Prop} : OKJ Tryz.prog none (f26.J3p Kn1 k) (codeAt f26.body [1, 1, 1, 0, 1, 0, 0, 1, 1]) (f26.Q5 Kn1 k) := by
  intro a w h
  obtain ⟨D, us, ds, rfl, h0⟩ := PJ_out h
  obtain ⟨v, us, rfl, h1⟩ := un_out h0
  obtain ⟨s45, rfl, h2⟩ := asStr_out h1
  obtain ⟨v, us, rfl, h3⟩ := un_out h2
  obtain ⟨s46, rfl, h4⟩ := asStr_out h3
  obtain ⟨v, us, rfl, h5⟩ := un_out h4
  obtain ⟨l47, rfl, h6⟩ := asS_out h5
  obtain ⟨v, us, rfl, h7⟩ := un_out h6
  obtain ⟨n48, rfl, h8⟩ := asI_out h7
  obtain ⟨rfl, h9⟩ := nl_out h8
  obtain ⟨rfl, h10⟩ := dn_out h9
  rw [← f26.J3_den D s45 s46 l47 n48 Kn1 k w] at h10
  exact pc_wp Tryz.mixed f26.J3_okc h10
theorem f26.J4_den (D : Nat → Value) (s41 : ByteArray) (s42 : ByteArray) (n43 : Int) (l44 : Sl) (Kn1 : ByteArray → ByteArray → Sl → Int → World → Prop) (k : Value → World → Prop) (w : World) : pc Tryz.prog none .none (codeAt f26.body [1, 1, 1, 0, 1, 0, 0, 1, 0, 0, 1, 1]) (f26.Q4 Kn1 k) D 87 [86, 85, 80, 79] [.string s41, .string s42, .int .i64 n43, slv l44] [] w = f26.J4 s41 s42 n43 l44 Kn1 k w := by kernel_rfl
theorem f26.J4_okc {Kn1 : ByteArray → ByteArray → Sl → Int → World → Prop} {k : Value → World → Prop} : okC Tryz.prog none .none (codeAt f26.body [1, 1, 1, 0, 1, 0, 0, 1, 0, 0, 1, 1]) (f26.Q4 Kn1 k) :=
  Eq.mpr (by kernel_rfl : okC Tryz.prog none .none (codeAt f26.body [1, 1, 1, 0, 1, 0, 0, 1, 0, 0, 1, 1]) (f26.Q4 Kn1 k) = (True)) (trivial)
theorem f26.J4_ok {Kn1 : ByteArray → ByteArray → Sl → Int → World → Prop} {k : Value → World → Prop} : OKJ Tryz.prog none (f26.J4p Kn1 k) (codeAt f26.body [1, 1, 1, 0, 1, 0, 0, 1, 0, 0, 1, 1]) (f26.Q4 Kn1 k) := by
  intro a w h
  obtain ⟨D, us, ds, rfl, h0⟩ := PJ_out h
  obtain ⟨v, us, rfl, h1⟩ := un_out h0
  obtain ⟨s41, rfl, h2⟩ := asStr_out h1
  obtain ⟨v, us, rfl, h3⟩ := un_out h2
  obtain ⟨s42, rfl, h4⟩ := asStr_out h3
  obtain ⟨v, us, rfl, h5⟩ := un_out h4
  obtain ⟨n43, rfl, h6⟩ := asI_out h5
  obtain ⟨v, us, rfl, h7⟩ := un_out h6
  obtain ⟨l44, rfl, h8⟩ := asS_out h7
  obtain ⟨rfl, h9⟩ := nl_out h8
  obtain ⟨rfl, h10⟩ := dn_out h9
  rw [← f26.J4_den D s41 s42 n43 l44 Kn1 k w] at h10
  exact pc_wp Tryz.mixed f26.J4_okc h10
theorem f26.L5_next {s10 : ByteArray} {s11 : ByteArray} {l12 : Sl} {n13 : Int} {l14 : Sl} {I : Int → World → Prop} {μ : Int → World → Nat} {m : Nat} {n15 : Int} {w : World} (hI : I n15 w) (hlt : μ n15 w < m) : f26.L5K s10 s11 l12 n13 l14 I μ m s10 s11 l12 n13 l14 n15 w := ⟨⟨rfl, rfl, rfl, rfl, rfl⟩, hI, hlt⟩
theorem f26.L5_den (D : Nat → Value) (s10 : ByteArray) (s11 : ByteArray) (l12 : Sl) (n13 : Int) (l14 : Sl) (n15 : Int) (Kn1 : ByteArray → ByteArray → Sl → Int → World → Prop) (Kn2 : ByteArray → ByteArray → Sl → Int → Sl → Int → World → Prop) (k : Value → World → Prop) (w : World) : pc Tryz.prog none (.seq none .none (.seq (some (f26.J6p Kn1 Kn2 k)) .none .none)) (codeAt f26.body [1, 1, 1, 0, 1, 0, 0, 1, 0, 0, 1, 0, 1, 0, 0]) (Exit.then (f26.L5k Kn2) (f26.Q2 Kn1 k)) D 87 [86, 85, 81, 80, 79, 78] [.string s10, .string s11, slv l12, .int .i64 n13, slv l14, .int .i64 n15] [] w = f26.L5 s10 s11 l12 n13 l14 n15 Kn1 Kn2 k w := by kernel_rfl
theorem f26.L5_okc {Kn1 : ByteArray → ByteArray → Sl → Int → World → Prop} {Kn2 : ByteArray → ByteArray → Sl → Int → Sl → Int → World → Prop} {k : Value → World → Prop} : okC Tryz.prog none (.seq none .none (.seq (some (f26.J6p Kn1 Kn2 k)) .none .none)) (codeAt f26.body [1, 1, 1, 0, 1, 0, 0, 1, 0, 0, 1, 0, 1, 0, 0]) (Exit.then (f26.L5k Kn2) (f26.Q2 Kn1 k)) :=
  Eq.mpr (by kernel_rfl : okC Tryz.prog none (.seq none .none (.seq (some (f26.J6p Kn1 Kn2 k)) .none .none)) (codeAt f26.body [1, 1, 1, 0, 1, 0, 0, 1, 0, 0, 1, 0, 1, 0, 0]) (Exit.then (f26.L5k Kn2) (f26.Q2 Kn1 k)) = (((True) ∧ (((True) ∧ OKJ Tryz.prog none (f26.J6p Kn1 Kn2 k) (codeAt f26.body [1, 1, 1, 0, 1, 0, 0, 1, 0, 0, 1, 0, 1, 0, 0, 1, 1]) (f26.Q3 Kn1 Kn2 k)))))) (⟨trivial, ⟨trivial, f26.J6_ok⟩⟩)
theorem f26.L5_ok {Kn1 : ByteArray → ByteArray → Sl → Int → World → Prop} {k : Value → World → Prop} : OKJ Tryz.prog none (f26.L5p Kn1 k) (codeAt f26.body [1, 1, 1, 0, 1, 0, 0, 1, 0, 0, 1, 0, 1, 0]) (f26.Q2 Kn1 k) := by
  intro a w h
  obtain ⟨D, us, ds, rfl, h0⟩ := PJ_out h
  obtain ⟨v, us, rfl, h1⟩ := un_out h0
  obtain ⟨s10, rfl, h2⟩ := asStr_out h1
  obtain ⟨v, us, rfl, h3⟩ := un_out h2
  obtain ⟨s11, rfl, h4⟩ := asStr_out h3
  obtain ⟨v, us, rfl, h5⟩ := un_out h4
  obtain ⟨l12, rfl, h6⟩ := asS_out h5
  obtain ⟨v, us, rfl, h7⟩ := un_out h6
  obtain ⟨n13, rfl, h8⟩ := asI_out h7
  obtain ⟨v, us, rfl, h9⟩ := un_out h8
  obtain ⟨l14, rfl, h10⟩ := asS_out h9
  obtain ⟨v, us, rfl, h11⟩ := un_out h10
  obtain ⟨n15, rfl, h12⟩ := asI_out h11
  obtain ⟨rfl, h13⟩ := nl_out h12
  obtain ⟨rfl, h14⟩ := dn_out h13
  rw [show (codeAt f26.body [1, 1, 1, 0, 1, 0, 0, 1, 0, 0, 1, 0, 1, 0]) = Code.loop (codeAt f26.body [1, 1, 1, 0, 1, 0, 0, 1, 0, 0, 1, 0, 1, 0, 0]) by kernel_rfl]
  exact h14 D
theorem f26.L5_rule {s10 : ByteArray} {s11 : ByteArray} {l12 : Sl} {n13 : Int} {l14 : Sl} {Kn1 : ByteArray → ByteArray → Sl → Int → World → Prop} {k : Value → World → Prop} (I : Int → World → Prop) (μ : Int → World → Nat) {n15 : Int} {w : World} (h0 : I n15 w)
    (hr : ∀ (n15 : Int) (w : World), I n15 w → f26.L5 s10 s11 l12 n13 l14 n15 Kn1 (f26.L5K s10 s11 l12 n13 l14 I μ (μ n15 w)) k w) : f26.L5lp s10 s11 l12 n13 l14 n15 Kn1 k w := by
  intro D0
  refine loop_ind (P := Tryz.prog) (fun m a w => ∃ n15 : Int, ∃ D : Nat → Value, a = fr D 87 [86, 85, 81, 80, 79, 78] [.string s10, .string s11, slv l12, .int .i64 n13, slv l14, .int .i64 n15] [] ∧ I n15 w ∧ μ n15 w = m) ?_ (μ n15 w) ⟨_, D0, rfl, h0, rfl⟩
  rintro m a w ⟨n15, D, rfl, hI, rfl⟩
  have h := hr n15 w hI
  rw [← f26.L5_den D s10 s11 l12 n13 l14 n15 Kn1 (f26.L5K s10 s11 l12 n13 l14 I μ (μ n15 w)) k w] at h
  refine then_mono (pc_wp Tryz.mixed f26.L5_okc h) ?_
  clear h
  intro a w h
  obtain ⟨D, us, ds, rfl, h0⟩ := PJ_out h
  obtain ⟨v, us, rfl, h1⟩ := un_out h0
  obtain ⟨s10', rfl, h2⟩ := asStr_out h1
  obtain ⟨v, us, rfl, h3⟩ := un_out h2
  obtain ⟨s11', rfl, h4⟩ := asStr_out h3
  obtain ⟨v, us, rfl, h5⟩ := un_out h4
  obtain ⟨l12', rfl, h6⟩ := asS_out h5
  obtain ⟨v, us, rfl, h7⟩ := un_out h6
  obtain ⟨n13', rfl, h8⟩ := asI_out h7
  obtain ⟨v, us, rfl, h9⟩ := un_out h8
  obtain ⟨l14', rfl, h10⟩ := asS_out h9
  obtain ⟨v, us, rfl, h11⟩ := un_out h10
  obtain ⟨n15', rfl, h12⟩ := asI_out h11
  obtain ⟨rfl, h13⟩ := nl_out h12
  obtain ⟨rfl, h14⟩ := dn_out h13
  obtain ⟨⟨rfl, rfl, rfl, rfl, rfl⟩, hI, hlt⟩ := h14
  exact ⟨_, hlt, _, D, rfl, hI, rfl⟩
theorem f26.J1_den (D : Nat → Value) (s49 : ByteArray) (l50 : Sl) (k : Value → World → Prop) (w : World) : pc Tryz.prog none .none (codeAt f26.body [1, 1, 1, 1]) (f26.Q6 k) D 87 [85, 81] [.string s49, slv l50] [] w = f26.J1 s49 l50 k w := by kernel_rfl
theorem f26.J1_okc {k : Value → World → Prop} : okC Tryz.prog none .none (codeAt f26.body [1, 1, 1, 1]) (f26.Q6 k) :=
  Eq.mpr (by kernel_rfl : okC Tryz.prog none .none (codeAt f26.body [1, 1, 1, 1]) (f26.Q6 k) = (True)) (trivial)
theorem f26.J1_ok {k : Value → World → Prop} : OKJ Tryz.prog none (f26.J1p k) (codeAt f26.body [1, 1, 1, 1]) (f26.Q6 k) := by
  intro a w h
  obtain ⟨D, us, ds, rfl, h0⟩ := PJ_out h
  obtain ⟨v, us, rfl, h1⟩ := un_out h0
  obtain ⟨s49, rfl, h2⟩ := asStr_out h1
  obtain ⟨v, us, rfl, h3⟩ := un_out h2
  obtain ⟨l50, rfl, h4⟩ := asS_out h3
  obtain ⟨rfl, h5⟩ := nl_out h4
  obtain ⟨rfl, h6⟩ := dn_out h5
  rw [← f26.J1_den D s49 l50 k w] at h6
  exact pc_wp Tryz.mixed f26.J1_okc h6
theorem f26.L2_next {s5 : ByteArray} {s6 : ByteArray} {I : Sl → Int → World → Prop} {μ : Sl → Int → World → Nat} {m : Nat} {l7 : Sl} {n8 : Int} {w : World} (hI : I l7 n8 w) (hlt : μ l7 n8 w < m) : f26.L2K s5 s6 I μ m s5 s6 l7 n8 w := ⟨⟨rfl, rfl⟩, hI, hlt⟩
theorem f26.L2_den (D : Nat → Value) (s5 : ByteArray) (s6 : ByteArray) (l7 : Sl) (n8 : Int) (Kn1 : ByteArray → ByteArray → Sl → Int → World → Prop) (k : Value → World → Prop) (w : World) : pc Tryz.prog none (.seq none .none (.seq (some (f26.J3p Kn1 k)) (.block (.seq none .none (.seq (some (f26.J4p Kn1 k)) (.seq none .none (.block (.at (f26.L5p Kn1 k)))) .none))) .none)) (codeAt f26.body [1, 1, 1, 0, 1, 0, 0]) (Exit.then (f26.L2k Kn1) (f26.Q1 k)) D 87 [86, 85, 81, 80] [.string s5, .string s6, slv l7, .int .i64 n8] [] w = f26.L2 s5 s6 l7 n8 Kn1 k w := by kernel_rfl
theorem f26.L2_okc {Kn1 : ByteArray → ByteArray → Sl → Int → World → Prop} {k : Value → World → Prop} : okC Tryz.prog none (.seq none .none (.seq (some (f26.J3p Kn1 k)) (.block (.seq none .none (.seq (some (f26.J4p Kn1 k)) (.seq none .none (.block (.at (f26.L5p Kn1 k)))) .none))) .none)) (codeAt f26.body [1, 1, 1, 0, 1, 0, 0]) (Exit.then (f26.L2k Kn1) (f26.Q1 k)) :=
  Eq.mpr (by kernel_rfl : okC Tryz.prog none (.seq none .none (.seq (some (f26.J3p Kn1 k)) (.block (.seq none .none (.seq (some (f26.J4p Kn1 k)) (.seq none .none (.block (.at (f26.L5p Kn1 k)))) .none))) .none)) (codeAt f26.body [1, 1, 1, 0, 1, 0, 0]) (Exit.then (f26.L2k Kn1) (f26.Q1 k)) = (((True) ∧ (((((True) ∧ (((((True) ∧ (OKJ Tryz.prog none (f26.L5p Kn1 k) (codeAt f26.body [1, 1, 1, 0, 1, 0, 0, 1, 0, 0, 1, 0, 1, 0]) (f26.Q2 Kn1 k)))) ∧ OKJ Tryz.prog none (f26.J4p Kn1 k) (codeAt f26.body [1, 1, 1, 0, 1, 0, 0, 1, 0, 0, 1, 1]) (f26.Q4 Kn1 k))))) ∧ OKJ Tryz.prog none (f26.J3p Kn1 k) (codeAt f26.body [1, 1, 1, 0, 1, 0, 0, 1, 1]) (f26.Q5 Kn1 k)))))) (⟨trivial, ⟨⟨trivial, ⟨⟨trivial, f26.L5_ok⟩, f26.J4_ok⟩⟩, f26.J3_ok⟩⟩)
theorem f26.L2_ok {k : Value → World → Prop} : OKJ Tryz.prog none (f26.L2p k) (codeAt f26.body [1, 1, 1, 0, 1, 0]) (f26.Q1 k) := by
  intro a w h
  obtain ⟨D, us, ds, rfl, h0⟩ := PJ_out h
  obtain ⟨v, us, rfl, h1⟩ := un_out h0
  obtain ⟨s5, rfl, h2⟩ := asStr_out h1
  obtain ⟨v, us, rfl, h3⟩ := un_out h2
  obtain ⟨s6, rfl, h4⟩ := asStr_out h3
  obtain ⟨v, us, rfl, h5⟩ := un_out h4
  obtain ⟨l7, rfl, h6⟩ := asS_out h5
  obtain ⟨v, us, rfl, h7⟩ := un_out h6
  obtain ⟨n8, rfl, h8⟩ := asI_out h7
  obtain ⟨rfl, h9⟩ := nl_out h8
  obtain ⟨rfl, h10⟩ := dn_out h9
  rw [show (codeAt f26.body [1, 1, 1, 0, 1, 0]) = Code.loop (codeAt f26.body [1, 1, 1, 0, 1, 0, 0]) by kernel_rfl]
  exact h10 D
theorem f26.L2_rule {s5 : ByteArray} {s6 : ByteArray} {k : Value → World → Prop} (I : Sl → Int → World → Prop) (μ : Sl → Int → World → Nat) {l7 : Sl} {n8 : Int} {w : World} (h0 : I l7 n8 w)
    (hr : ∀ (l7 : Sl) (n8 : Int) (w : World), I l7 n8 w → f26.L2 s5 s6 l7 n8 (f26.L2K s5 s6 I μ (μ l7 n8 w)) k w) : f26.L2lp s5 s6 l7 n8 k w := by
  intro D0
  refine loop_ind (P := Tryz.prog) (fun m a w => ∃ l7 : Sl, ∃ n8 : Int, ∃ D : Nat → Value, a = fr D 87 [86, 85, 81, 80] [.string s5, .string s6, slv l7, .int .i64 n8] [] ∧ I l7 n8 w ∧ μ l7 n8 w = m) ?_ (μ l7 n8 w) ⟨_, _, D0, rfl, h0, rfl⟩
  rintro m a w ⟨l7, n8, D, rfl, hI, rfl⟩
  have h := hr l7 n8 w hI
  rw [← f26.L2_den D s5 s6 l7 n8 (f26.L2K s5 s6 I μ (μ l7 n8 w)) k w] at h
  refine then_mono (pc_wp Tryz.mixed f26.L2_okc h) ?_
  clear h
  intro a w h
  obtain ⟨D, us, ds, rfl, h0⟩ := PJ_out h
  obtain ⟨v, us, rfl, h1⟩ := un_out h0
  obtain ⟨s5', rfl, h2⟩ := asStr_out h1
  obtain ⟨v, us, rfl, h3⟩ := un_out h2
  obtain ⟨s6', rfl, h4⟩ := asStr_out h3
  obtain ⟨v, us, rfl, h5⟩ := un_out h4
  obtain ⟨l7', rfl, h6⟩ := asS_out h5
  obtain ⟨v, us, rfl, h7⟩ := un_out h6
  obtain ⟨n8', rfl, h8⟩ := asI_out h7
  obtain ⟨rfl, h9⟩ := nl_out h8
  obtain ⟨rfl, h10⟩ := dn_out h9
  obtain ⟨⟨rfl, rfl⟩, hI, hlt⟩ := h10
  exact ⟨_, hlt, _, _, D, rfl, hI, rfl⟩
def f26.b (s1 : ByteArray) (s2 : ByteArray) (k : Value → World → Prop) (w : World) : Prop :=
  RQ (0 ≤ (IntKind.wrap .i64 (((s2.size : Nat) : Int) + 1) : Int) ∧ (IntKind.wrap .i64 (((s2.size : Nat) : Int) + 1) : Int) ≤ (IntKind.wrap .i64 (((s2.size : Nat) : Int) + 1) : Int) ∧ (IntKind.wrap .i64 (((s2.size : Nat) : Int) + 1) : Int) ≤ 9223372036854775807 ∧ ((1 : Nat) : Int) * (IntKind.wrap .i64 (((s2.size : Nat) : Int) + 1) : Int) ≤ 281474976710656) (AL (.cells (Builtin.zeroCells #[.bool false] (Int.toNat (IntKind.wrap .i64 (((s2.size : Nat) : Int) + 1) : Int))) 4) (fun q3 w => IX ((some ⟨q3, 0, none⟩), (Int.toNat (IntKind.wrap .i64 (((s2.size : Nat) : Int) + 1) : Int)), (Int.toNat (IntKind.wrap .i64 (((s2.size : Nat) : Int) + 1) : Int))) 0 1 (fun a4 => ST (Addr.add a4 0) (.bool true) (fun w => f26.L2lp s1 s2 ((some ⟨q3, 0, none⟩), (Int.toNat (IntKind.wrap .i64 (((s2.size : Nat) : Int) + 1) : Int)), (Int.toNat (IntKind.wrap .i64 (((s2.size : Nat) : Int) + 1) : Int))) 0 k w) w)) w)
theorem f26.den (s1 : ByteArray) (s2 : ByteArray) (k : Value → World → Prop) (w : World) : pc Tryz.prog none (.seq none .none (.seq none .none (.seq none .none (.seq (some (f26.J1p k)) (.seq none .none (.block (.at (f26.L2p k)))) .none)))) f26.body (retQ Tryz.prog [.tmp 4] k) (fun _ => undef) 87 [86, 85] [.string s1, .string s2] [] w = f26.b s1 s2 k w := by kernel_rfl
theorem f26.okc {k : Value → World → Prop} : okC Tryz.prog none (.seq none .none (.seq none .none (.seq none .none (.seq (some (f26.J1p k)) (.seq none .none (.block (.at (f26.L2p k)))) .none)))) f26.body (retQ Tryz.prog [.tmp 4] k) :=
  Eq.mpr (by kernel_rfl : okC Tryz.prog none (.seq none .none (.seq none .none (.seq none .none (.seq (some (f26.J1p k)) (.seq none .none (.block (.at (f26.L2p k)))) .none)))) f26.body (retQ Tryz.prog [.tmp 4] k) = (((True) ∧ (((True) ∧ (((True) ∧ (((((True) ∧ (OKJ Tryz.prog none (f26.L2p k) (codeAt f26.body [1, 1, 1, 0, 1, 0]) (f26.Q1 k)))) ∧ OKJ Tryz.prog none (f26.J1p k) (codeAt f26.body [1, 1, 1, 1]) (f26.Q6 k)))))))))) (⟨trivial, ⟨trivial, ⟨trivial, ⟨⟨trivial, f26.L2_ok⟩, f26.J1_ok⟩⟩⟩⟩)
theorem f26.call {s1 : ByteArray} {s2 : ByteArray} {k : Value → World → Prop} {w : World} (h : f26.b s1 s2 k w) : CALL Tryz.prog 26 #[.string s1, .string s2] k w :=
  calls_of_pc Tryz.mixed Tryz.func26 (by kernel_rfl : Tryz.f26.body = some f26.body) (Tryz.call26 _ _) (by kernel_rfl : #[.string s1, .string s2] ++ Array.replicate (Tryz.f26.ntmps - (#[.string s1, .string s2] : Array Value).size) undef = (FR (fun _ => undef) 87 [86, 85] [.string s1, .string s2]).toArray) (by kernel_rfl : Tryz.f26.results.toList = [.tmp 4]) f26.okc ((f26.den s1 s2 k w).symm ▸ h)

/-! (*rollcall/room.Room).MayJoin -/
noncomputable def f31.body : Code := (Tryz.f31.body).getD .skip
def f31.b (p1 : Option Addr) (n2 : Int) (s3 : ByteArray) (s4 : ByteArray) (k : Value → World → Prop) (w : World) : Prop :=
  brK p1.isNone (k (.int .i64 403) w) (NN p1 (fun a5 => LD Value.pointer (Addr.add a5 8) (fun p6 w => CALL Tryz.prog 57 #[.pointer p6, .int .i64 n2] (fun v7 w => ∃ b8 : Bool, v7 = .bool b8 ∧ NN p1 (fun a9 => LD (Value.int .i64) (Addr.add a9 4) (fun n10 w => brK ((intBit .and .i64 n10 1) != 0) (brK (!b8) (k (.int .i64 473) w) (NN p1 (fun a11 => LD Value.string (Addr.add a11 5) (fun s12 w => brK (!decide ((s12 : ByteArray) = (⟨#[]⟩ : ByteArray))) (NN p1 (fun a13 => LD Value.string (Addr.add a13 5) (fun s14 w => brK (!decide ((s14 : ByteArray) = s4)) (k (.int .i64 475) w) (DR (fun w => NN p1 (fun a15 => LD (Value.int .i64) (Addr.add a15 6) (fun n16 w => brK (decide ((0 : Int) < n16)) (NN p1 (fun a17 => LD slv (Addr.add a17 2) (fun l18 w => NN p1 (fun a19 => LD (Value.int .i64) (Addr.add a19 6) (fun n20 w => brK (decide (n20 ≤ ((l18.2.1 : Nat) : Int))) (k (.int .i64 471) w) (brK (!b8) (NN p1 (fun a21 => LD slv (Addr.add a21 7) (fun l22 w => CALL Tryz.prog 50 #[.string s3, slv l22] (fun v23 w => ∃ b24 : Bool, v23 = .bool b24 ∧ brK b24 (k (.int .i64 474) w) (k (.int .i64 0) w)) w) w)) (k (.int .i64 0) w))) w)) w)) (brK (!b8) (NN p1 (fun a25 => LD slv (Addr.add a25 7) (fun l26 w => CALL Tryz.prog 50 #[.string s3, slv l26] (fun v27 w => ∃ b28 : Bool, v27 = .bool b28 ∧ brK b28 (k (.int .i64 474) w) (k (.int .i64 0) w)) w) w)) (k (.int .i64 0) w))) w)) w)) w)) (DR (fun w => NN p1 (fun a29 => LD (Value.int .i64) (Addr.add a29 6) (fun n30 w => brK (decide ((0 : Int) < n30)) (NN p1 (fun a31 => LD slv (Addr.add a31 2) (fun l32 w => NN p1 (fun a33 => LD (Value.int .i64) (Addr.add a33 6) (fun n34 w => brK (decide (n34 ≤ ((l32.2.1 : Nat) : Int))) (k (.int .i64 471) w) (brK (!b8) (NN p1 (fun a35 => LD slv (Addr.add a35 7) (fun l36 w => CALL Tryz.prog 50 #[.string s3, slv l36] (fun v37 w => ∃ b38 : Bool, v37 = .bool b38 ∧ brK b38 (k (.int .i64 474) w) (k (.int .i64 0) w)) w) w)) (k (.int .i64 0) w))) w)) w)) (brK (!b8) (NN p1 (fun a39 => LD slv (Addr.add a39 7) (fun l40 w => CALL Tryz.prog 50 #[.string s3, slv l40] (fun v41 w => ∃ b42 : Bool, v41 = .bool b42 ∧ brK b42 (k (.int .i64 474) w) (k (.int .i64 0) w)) w) w)) (k (.int .i64 0) w))) w)) w)) w))) (NN p1 (fun a43 => LD Value.string (Addr.add a43 5) (fun s44 w => brK (!decide ((s44 : ByteArray) = (⟨#[]⟩ : ByteArray))) (NN p1 (fun a45 => LD Value.string (Addr.add a45 5) (fun s46 w => brK (!decide ((s46 : ByteArray) = s4)) (k (.int .i64 475) w) (DR (fun w => NN p1 (fun a47 => LD (Value.int .i64) (Addr.add a47 6) (fun n48 w => brK (decide ((0 : Int) < n48)) (NN p1 (fun a49 => LD slv (Addr.add a49 2) (fun l50 w => NN p1 (fun a51 => LD (Value.int .i64) (Addr.add a51 6) (fun n52 w => brK (decide (n52 ≤ ((l50.2.1 : Nat) : Int))) (k (.int .i64 471) w) (brK (!b8) (NN p1 (fun a53 => LD slv (Addr.add a53 7) (fun l54 w => CALL Tryz.prog 50 #[.string s3, slv l54] (fun v55 w => ∃ b56 : Bool, v55 = .bool b56 ∧ brK b56 (k (.int .i64 474) w) (k (.int .i64 0) w)) w) w)) (k (.int .i64 0) w))) w)) w)) (brK (!b8) (NN p1 (fun a57 => LD slv (Addr.add a57 7) (fun l58 w => CALL Tryz.prog 50 #[.string s3, slv l58] (fun v59 w => ∃ b60 : Bool, v59 = .bool b60 ∧ brK b60 (k (.int .i64 474) w) (k (.int .i64 0) w)) w) w)) (k (.int .i64 0) w))) w)) w)) w)) (DR (fun w => NN p1 (fun a61 => LD (Value.int .i64) (Addr.add a61 6) (fun n62 w => brK (decide ((0 : Int) < n62)) (NN p1 (fun a63 => LD slv (Addr.add a63 2) (fun l64 w => NN p1 (fun a65 => LD (Value.int .i64) (Addr.add a65 6) (fun n66 w => brK (decide (n66 ≤ ((l64.2.1 : Nat) : Int))) (k (.int .i64 471) w) (brK (!b8) (NN p1 (fun a67 => LD slv (Addr.add a67 7) (fun l68 w => CALL Tryz.prog 50 #[.string s3, slv l68] (fun v69 w => ∃ b70 : Bool, v69 = .bool b70 ∧ brK b70 (k (.int .i64 474) w) (k (.int .i64 0) w)) w) w)) (k (.int .i64 0) w))) w)) w)) (brK (!b8) (NN p1 (fun a71 => LD slv (Addr.add a71 7) (fun l72 w => CALL Tryz.prog 50 #[.string s3, slv l72] (fun v73 w => ∃ b74 : Bool, v73 = .bool b74 ∧ brK b74 (k (.int .i64 474) w) (k (.int .i64 0) w)) w) w)) (k (.int .i64 0) w))) w)) w)) w))) w)) w) w))
theorem f31.den (p1 : Option Addr) (n2 : Int) (s3 : ByteArray) (s4 : ByteArray) (k : Value → World → Prop) (w : World) : pc Tryz.prog none .none f31.body (retQ Tryz.prog [.tmp 8] k) (fun _ => undef) 72 [71, 70, 69, 68] [.pointer p1, .int .i64 n2, .string s3, .string s4] [] w = f31.b p1 n2 s3 s4 k w := by kernel_rfl
theorem f31.okc {k : Value → World → Prop} : okC Tryz.prog none .none f31.body (retQ Tryz.prog [.tmp 8] k) :=
  Eq.mpr (by kernel_rfl : okC Tryz.prog none .none f31.body (retQ Tryz.prog [.tmp 8] k) = (True)) (trivial)
theorem f31.call {p1 : Option Addr} {n2 : Int} {s3 : ByteArray} {s4 : ByteArray} {k : Value → World → Prop} {w : World} (h : f31.b p1 n2 s3 s4 k w) : CALL Tryz.prog 31 #[.pointer p1, .int .i64 n2, .string s3, .string s4] k w :=
  calls_of_pc Tryz.mixed Tryz.func31 (by kernel_rfl : Tryz.f31.body = some f31.body) (Tryz.call31 _ _) (by kernel_rfl : #[.pointer p1, .int .i64 n2, .string s3, .string s4] ++ Array.replicate (Tryz.f31.ntmps - (#[.pointer p1, .int .i64 n2, .string s3, .string s4] : Array Value).size) undef = (FR (fun _ => undef) 72 [71, 70, 69, 68] [.pointer p1, .int .i64 n2, .string s3, .string s4]).toArray) (by kernel_rfl : Tryz.f31.results.toList = [.tmp 8]) f31.okc ((f31.den p1 n2 s3 s4 k w).symm ▸ h)

/-! (*rollcall/room.Room).ban -/
noncomputable def f44.body : Code := (Tryz.f44.body).getD .skip
def f44.J1 (q53 : Nat) (q54 : Nat) (k : Value → World → Prop) (w : World) : Prop :=
  LD Value.bool (Addr.add ⟨q53, 0, none⟩ 0) (fun b55 w => LD (Value.int .u8) (Addr.add ⟨q53, 0, none⟩ 1) (fun n56 w => LD Value.string (Addr.add ⟨q53, 0, none⟩ 2) (fun s57 w => ST (Addr.add ⟨q54, 0, none⟩ 0) (.bool b55) (fun w => ST (Addr.add ⟨q54, 0, none⟩ 1) (.int .u8 n56) (fun w => ST (Addr.add ⟨q54, 0, none⟩ 2) (.string s57) (fun w => LD Value.bool (Addr.add ⟨q54, 0, none⟩ 0) (fun b58 w => LD (Value.int .u8) (Addr.add ⟨q54, 0, none⟩ 1) (fun n59 w => LD Value.string (Addr.add ⟨q54, 0, none⟩ 2) (fun s60 w => k (.tuple #[.agg #[.bool b58, .int .u8 n59, .string s60], .int .i64 0]) w) w) w) w) w) w) w) w) w) w
def f44.J1p (k : Value → World → Prop) : Act → World → Prop := PJ 93 [89, 88] fun us ds w => un us fun v us => asBox v fun q53 => un us fun v us => asBox v fun q54 => nl us (dn ds (f44.J1 q53 q54 k w))
def f44.Q1 (k : Value → World → Prop) : Exit → Act → World → Prop := (Exit.inBlock 0 (Exit.then (f44.J1p k) (retQ Tryz.prog [.cell 4 24, .tmp 5] k)))
def f44.Q2 (k : Value → World → Prop) : Exit → Act → World → Prop := (retQ Tryz.prog [.cell 4 24, .tmp 5] k)
def f44.J2 (p38 : Option Addr) (q39 : Nat) (q40 : Nat) (n41 : Int) (b42 : Bool) (k : Value → World → Prop) (w : World) : Prop :=
  brK b42 (ST (Addr.add ⟨q40, 0, none⟩ 0) (.bool false) (fun w => ST (Addr.add ⟨q40, 0, none⟩ 1) (.int .u8 0) (fun w => ST (Addr.add ⟨q40, 0, none⟩ 2) (.string (⟨#[]⟩ : ByteArray)) (fun w => LD Value.bool (Addr.add ⟨q40, 0, none⟩ 0) (fun b43 w => LD (Value.int .u8) (Addr.add ⟨q40, 0, none⟩ 1) (fun n44 w => LD Value.string (Addr.add ⟨q40, 0, none⟩ 2) (fun s45 w => k (.tuple #[.agg #[.bool b43, .int .u8 n44, .string s45], .int .i64 478]) w) w) w) w) w) w) w) (LD Value.bool (Addr.add ⟨q39, 0, none⟩ 0) (fun b46 w => brK b46 (DRC (fun C w => NN p38 (fun a47 => STL C slv (Addr.add a47 7) (fun l48 => STL C Value.string (Addr.add ⟨q39, 0, none⟩ 2) (fun s49 => AL (.cells #[.string s49] 9) (fun q50 w => C w ∧ APP 9 1 16 #[.string (⟨#[]⟩ : ByteArray)] l48 1 (fun w => cellsOfS w ((some ⟨q50, 0, none⟩), 1, 1) (1 * 1)) (fun l51 w => NN p38 (fun a52 => ST (Addr.add (Addr.add a52 7) 0) (slv l51) (fun w => f44.J1 q39 q40 k w) w)) w) w)))) w) (NN p38 (fun a61 => LD slv (Addr.add a61 7) (fun l62 w => IX l62 n41 1 (fun a63 => LD Value.string a63 (fun s64 w => ST (Addr.add (Addr.add ⟨q39, 0, none⟩ 2) 0) (.string s64) (fun w => NN p38 (fun a65 => LD slv (Addr.add a65 7) (fun l66 w => CALL Tryz.prog 76 #[slv l66, .int .i64 n41, .int .i64 (IntKind.wrap .i64 (n41 + 1))] (fun v67 w => ∃ l68 : Sl, v67 = slv l68 ∧ NN p38 (fun a69 => ST (Addr.add (Addr.add a69 7) 0) (slv l68) (fun w => f44.J1 q39 q40 k w) w)) w) w)) w) w)) w))) w)
def f44.J2p (k : Value → World → Prop) : Act → World → Prop := PJ 93 [92, 89, 88, 85, 30] fun us ds w => un us fun v us => asP v fun p38 => un us fun v us => asBox v fun q39 => un us fun v us => asBox v fun q40 => un us fun v us => asI .i64 v fun n41 => un us fun v us => asB v fun b42 => nl us (dn ds (f44.J2 p38 q39 q40 n41 b42 k w))
theorem f44.J1_den (D : Nat → Value) (q53 : Nat) (q54 : Nat) (k : Value → World → Prop) (w : World) : pc Tryz.prog none .none (codeAt f44.body [1, 1, 1, 1, 1, 1]) (f44.Q2 k) D 93 [89, 88] [.pointer (some ⟨q53, 0, none⟩), .pointer (some ⟨q54, 0, none⟩)] [] w = f44.J1 q53 q54 k w := by kernel_rfl
theorem f44.J1_okc {k : Value → World → Prop} : okC Tryz.prog none .none (codeAt f44.body [1, 1, 1, 1, 1, 1]) (f44.Q2 k) :=
  Eq.mpr (by kernel_rfl : okC Tryz.prog none .none (codeAt f44.body [1, 1, 1, 1, 1, 1]) (f44.Q2 k) = (True)) (trivial)
theorem f44.J1_ok {k : Value → World → Prop} : OKJ Tryz.prog none (f44.J1p k) (codeAt f44.body [1, 1, 1, 1, 1, 1]) (f44.Q2 k) := by
  intro a w h
  obtain ⟨D, us, ds, rfl, h0⟩ := PJ_out h
  obtain ⟨v, us, rfl, h1⟩ := un_out h0
  obtain ⟨q53, rfl, h2⟩ := asBox_out h1
  obtain ⟨v, us, rfl, h3⟩ := un_out h2
  obtain ⟨q54, rfl, h4⟩ := asBox_out h3
  obtain ⟨rfl, h5⟩ := nl_out h4
  obtain ⟨rfl, h6⟩ := dn_out h5
  rw [← f44.J1_den D q53 q54 k w] at h6
  exact pc_wp Tryz.mixed f44.J1_okc h6
theorem f44.J2_den (D : Nat → Value) (p38 : Option Addr) (q39 : Nat) (q40 : Nat) (n41 : Int) (b42 : Bool) (k : Value → World → Prop) (w : World) : pc Tryz.prog none .none (codeAt f44.body [1, 1, 1, 1, 1, 0, 0, 1, 1, 1]) (f44.Q1 k) D 93 [92, 89, 88, 85, 30] [.pointer p38, .pointer (some ⟨q39, 0, none⟩), .pointer (some ⟨q40, 0, none⟩), .int .i64 n41, .bool b42] [] w = f44.J2 p38 q39 q40 n41 b42 k w := by kernel_rfl
theorem f44.J2_okc {k : Value → World → Prop} : okC Tryz.prog none .none (codeAt f44.body [1, 1, 1, 1, 1, 0, 0, 1, 1, 1]) (f44.Q1 k) :=
  Eq.mpr (by kernel_rfl : okC Tryz.prog none .none (codeAt f44.body [1, 1, 1, 1, 1, 0, 0, 1, 1, 1]) (f44.Q1 k) = (True)) (trivial)
theorem f44.J2_ok {k : Value → World → Prop} : OKJ Tryz.prog none (f44.J2p k) (codeAt f44.body [1, 1, 1, 1, 1, 0, 0, 1, 1, 1]) (f44.Q1 k) := by
  intro a w h
  obtain ⟨D, us, ds, rfl, h0⟩ := PJ_out h
  obtain ⟨v, us, rfl, h1⟩ := un_out h0
  obtain ⟨p38, rfl, h2⟩ := asP_out h1
  obtain ⟨v, us, rfl, h3⟩ := un_out h2
  obtain ⟨q39, rfl, h4⟩ := asBox_out h3
  obtain ⟨v, us, rfl, h5⟩ := un_out h4
  obtain ⟨q40, rfl, h6⟩ := asBox_out h5
  obtain ⟨v, us, rfl, h7⟩ := un_out h6
  obtain ⟨n41, rfl, h8⟩ := asI_out h7
  obtain ⟨v, us, rfl, h9⟩ := un_out h8
  obtain ⟨b42, rfl, h10⟩ := asB_out h9
  obtain ⟨rfl, h11⟩ := nl_out h10
  obtain ⟨rfl, h12⟩ := dn_out h11
  rw [← f44.J2_den D p38 q39 q40 n41 b42 k w] at h12
  exact pc_wp Tryz.mixed f44.J2_okc h12
def f44.b (p1 : Option Addr) (b2 : Bool) (n3 : Int) (s4 : ByteArray) (k : Value → World → Prop) (w : World) : Prop :=
  AL (.cells #[.bool b2, .int .u8 n3, .string s4] 24) (fun q5 w => AL (.cells #[.bool false, .int .u8 0, .string (⟨#[]⟩ : ByteArray)] 24) (fun q6 w => LD Value.string (Addr.add ⟨q5, 0, none⟩ 2) (fun s7 w => LD Value.string (Addr.add ⟨q5, 0, none⟩ 2) (fun s8 w => CALL Tryz.prog 54 #[.string s7, .int .i64 ((s8.size : Nat) : Int)] (fun v9 w => ∃ s10 : ByteArray, v9 = .string s10 ∧ CALL Tryz.prog 71 #[.string s10] (fun v11 w => ∃ s12 : ByteArray, v11 = .string s12 ∧ LD Value.string (Addr.add ⟨q5, 0, none⟩ 2) (fun s13 w => brK (decide ((s13 : ByteArray) = (⟨#[]⟩ : ByteArray))) (ST (Addr.add ⟨q6, 0, none⟩ 0) (.bool false) (fun w => ST (Addr.add ⟨q6, 0, none⟩ 1) (.int .u8 0) (fun w => ST (Addr.add ⟨q6, 0, none⟩ 2) (.string (⟨#[]⟩ : ByteArray)) (fun w => LD Value.bool (Addr.add ⟨q6, 0, none⟩ 0) (fun b14 w => LD (Value.int .u8) (Addr.add ⟨q6, 0, none⟩ 1) (fun n15 w => LD Value.string (Addr.add ⟨q6, 0, none⟩ 2) (fun s16 w => k (.tuple #[.agg #[.bool b14, .int .u8 n15, .string s16], .int .i64 0]) w) w) w) w) w) w) w) (brK (decide ((100 : Int) < ((s12.size : Nat) : Int))) (ST (Addr.add ⟨q6, 0, none⟩ 0) (.bool false) (fun w => ST (Addr.add ⟨q6, 0, none⟩ 1) (.int .u8 0) (fun w => ST (Addr.add ⟨q6, 0, none⟩ 2) (.string (⟨#[]⟩ : ByteArray)) (fun w => LD Value.bool (Addr.add ⟨q6, 0, none⟩ 0) (fun b17 w => LD (Value.int .u8) (Addr.add ⟨q6, 0, none⟩ 1) (fun n18 w => LD Value.string (Addr.add ⟨q6, 0, none⟩ 2) (fun s19 w => k (.tuple #[.agg #[.bool b17, .int .u8 n18, .string s19], .int .i64 0]) w) w) w) w) w) w) w) (CALL Tryz.prog 72 #[.string s12, .string (⟨#[32]⟩ : ByteArray)] (fun v20 w => ∃ b21 : Bool, v20 = .bool b21 ∧ brK b21 (ST (Addr.add ⟨q6, 0, none⟩ 0) (.bool false) (fun w => ST (Addr.add ⟨q6, 0, none⟩ 1) (.int .u8 0) (fun w => ST (Addr.add ⟨q6, 0, none⟩ 2) (.string (⟨#[]⟩ : ByteArray)) (fun w => LD Value.bool (Addr.add ⟨q6, 0, none⟩ 0) (fun b22 w => LD (Value.int .u8) (Addr.add ⟨q6, 0, none⟩ 1) (fun n23 w => LD Value.string (Addr.add ⟨q6, 0, none⟩ 2) (fun s24 w => k (.tuple #[.agg #[.bool b22, .int .u8 n23, .string s24], .int .i64 0]) w) w) w) w) w) w) w) (ST (Addr.add (Addr.add ⟨q5, 0, none⟩ 2) 0) (.string s12) (fun w => NN p1 (fun a25 => LD slv (Addr.add a25 7) (fun l26 w => CALL Tryz.prog 73 #[slv l26, .func (.func 74) #[] #[.pointer (some ⟨q5, 0, none⟩)]] (fun v27 w => ∃ n28 : Int, v27 = .int .i64 n28 ∧ LD Value.bool (Addr.add ⟨q5, 0, none⟩ 0) (fun b29 w => brK (b29 == (decide ((0 : Int) ≤ n28))) (ST (Addr.add ⟨q6, 0, none⟩ 0) (.bool false) (fun w => ST (Addr.add ⟨q6, 0, none⟩ 1) (.int .u8 0) (fun w => ST (Addr.add ⟨q6, 0, none⟩ 2) (.string (⟨#[]⟩ : ByteArray)) (fun w => LD Value.bool (Addr.add ⟨q6, 0, none⟩ 0) (fun b30 w => LD (Value.int .u8) (Addr.add ⟨q6, 0, none⟩ 1) (fun n31 w => LD Value.string (Addr.add ⟨q6, 0, none⟩ 2) (fun s32 w => k (.tuple #[.agg #[.bool b30, .int .u8 n31, .string s32], .int .i64 0]) w) w) w) w) w) w) w) (DR (fun w => LD Value.bool (Addr.add ⟨q5, 0, none⟩ 0) (fun b33 w => brK b33 (NN p1 (fun a34 => LD slv (Addr.add a34 7) (fun l35 w => NN p1 (fun a36 => LD (Value.int .i64) (Addr.add a36 1) (fun n37 w => f44.J2 p1 q5 q6 n28 (decide (n37 ≤ ((l35.2.1 : Nat) : Int))) k w) w)) w)) (f44.J2 p1 q5 q6 n28 false k w)) w) w)) w) w) w)) w)) w))) w) w) w) w) w) w) w
theorem f44.den (p1 : Option Addr) (b2 : Bool) (n3 : Int) (s4 : ByteArray) (k : Value → World → Prop) (w : World) : pc Tryz.prog none (.seq none .none (.seq none .none (.seq none .none (.seq none .none (.seq none .none (.seq (some (f44.J1p k)) (.block (.seq none .none (.cond .none (.seq (some (f44.J2p k)) .none .none)))) .none)))))) f44.body (retQ Tryz.prog [.cell 4 24, .tmp 5] k) (fun _ => undef) 93 [92, 91] [.pointer p1, .agg #[.bool b2, .int .u8 n3, .string s4]] [] w = f44.b p1 b2 n3 s4 k w := by kernel_rfl
theorem f44.okc {k : Value → World → Prop} : okC Tryz.prog none (.seq none .none (.seq none .none (.seq none .none (.seq none .none (.seq none .none (.seq (some (f44.J1p k)) (.block (.seq none .none (.cond .none (.seq (some (f44.J2p k)) .none .none)))) .none)))))) f44.body (retQ Tryz.prog [.cell 4 24, .tmp 5] k) :=
  Eq.mpr (by kernel_rfl : okC Tryz.prog none (.seq none .none (.seq none .none (.seq none .none (.seq none .none (.seq none .none (.seq (some (f44.J1p k)) (.block (.seq none .none (.cond .none (.seq (some (f44.J2p k)) .none .none)))) .none)))))) f44.body (retQ Tryz.prog [.cell 4 24, .tmp 5] k) = (((True) ∧ (((True) ∧ (((True) ∧ (((True) ∧ (((True) ∧ (((((True) ∧ (((True) ∧ (((True) ∧ OKJ Tryz.prog none (f44.J2p k) (codeAt f44.body [1, 1, 1, 1, 1, 0, 0, 1, 1, 1]) (f44.Q1 k))))))) ∧ OKJ Tryz.prog none (f44.J1p k) (codeAt f44.body [1, 1, 1, 1, 1, 1]) (f44.Q2 k)))))))))))))) (⟨trivial, ⟨trivial, ⟨trivial, ⟨trivial, ⟨trivial, ⟨⟨trivial, ⟨trivial, ⟨trivial, f44.J2_ok⟩⟩⟩, f44.J1_ok⟩⟩⟩⟩⟩⟩)
theorem f44.call {p1 : Option Addr} {b2 : Bool} {n3 : Int} {s4 : ByteArray} {k : Value → World → Prop} {w : World} (h : f44.b p1 b2 n3 s4 k w) : CALL Tryz.prog 44 #[.pointer p1, .agg #[.bool b2, .int .u8 n3, .string s4]] k w :=
  calls_of_pc Tryz.mixed Tryz.func44 (by kernel_rfl : Tryz.f44.body = some f44.body) (Tryz.call44 _ _) (by kernel_rfl : #[.pointer p1, .agg #[.bool b2, .int .u8 n3, .string s4]] ++ Array.replicate (Tryz.f44.ntmps - (#[.pointer p1, .agg #[.bool b2, .int .u8 n3, .string s4]] : Array Value).size) undef = (FR (fun _ => undef) 93 [92, 91] [.pointer p1, .agg #[.bool b2, .int .u8 n3, .string s4]]).toArray) (by kernel_rfl : Tryz.f44.results.toList = [.cell 4 24, .tmp 5]) f44.okc ((f44.den p1 b2 n3 s4 k w).symm ▸ h)

/-! (*rollcall/rollcallref19.Room).ban -/
noncomputable def f60.body : Code := (Tryz.f60.body).getD .skip
def f60.J3 (p53 : Option Addr) (q54 : Nat) (q55 : Nat) (s56 : ByteArray) (n57 : Int) (k : Value → World → Prop) (w : World) : Prop :=
  LD Value.bool (Addr.add ⟨q54, 0, none⟩ 0) (fun b58 w => brK b58 (brK (decide ((0 : Int) ≤ n57)) (ST (Addr.add ⟨q55, 0, none⟩ 0) (.bool false) (fun w => ST (Addr.add ⟨q55, 0, none⟩ 1) (.int .u8 0) (fun w => ST (Addr.add ⟨q55, 0, none⟩ 2) (.string (⟨#[]⟩ : ByteArray)) (fun w => LD Value.bool (Addr.add ⟨q55, 0, none⟩ 0) (fun b59 w => LD (Value.int .u8) (Addr.add ⟨q55, 0, none⟩ 1) (fun n60 w => LD Value.string (Addr.add ⟨q55, 0, none⟩ 2) (fun s61 w => k (.tuple #[.agg #[.bool b59, .int .u8 n60, .string s61], .int .i64 0]) w) w) w) w) w) w) w) (DR (fun w => NN p53 (fun a62 => LD slv (Addr.add a62 7) (fun l63 w => NN p53 (fun a64 => LD (Value.int .i64) (Addr.add a64 1) (fun n65 w => brK (decide (n65 ≤ ((l63.2.1 : Nat) : Int))) (ST (Addr.add ⟨q55, 0, none⟩ 0) (.bool false) (fun w => ST (Addr.add ⟨q55, 0, none⟩ 1) (.int .u8 0) (fun w => ST (Addr.add ⟨q55, 0, none⟩ 2) (.string (⟨#[]⟩ : ByteArray)) (fun w => LD Value.bool (Addr.add ⟨q55, 0, none⟩ 0) (fun b66 w => LD (Value.int .u8) (Addr.add ⟨q55, 0, none⟩ 1) (fun n67 w => LD Value.string (Addr.add ⟨q55, 0, none⟩ 2) (fun s68 w => k (.tuple #[.agg #[.bool b66, .int .u8 n67, .string s68], .int .i64 478]) w) w) w) w) w) w) w) (AL (.cells #[] 9) (fun q69 w => NN p53 (fun a70 => LD slv (Addr.add a70 7) (fun l71 w => APP 9 1 16 #[.string (⟨#[]⟩ : ByteArray)] ((some ⟨q69, 0, none⟩), 0, 0) l71.2.1 (fun w => cellsOfS w l71 (l71.2.1 * 1)) (fun l72 w => AL (.cells #[.string s56] 9) (fun q73 w => APP 9 1 16 #[.string (⟨#[]⟩ : ByteArray)] l72 1 (fun w => cellsOfS w ((some ⟨q73, 0, none⟩), 1, 1) (1 * 1)) (fun l74 w => NN p53 (fun a75 => ST (Addr.add (Addr.add a75 7) 0) (slv l74) (fun w => ST (Addr.add ⟨q55, 0, none⟩ 0) (.bool true) (fun w => ST (Addr.add ⟨q55, 0, none⟩ 1) (.int .u8 98) (fun w => ST (Addr.add ⟨q55, 0, none⟩ 2) (.string s56) (fun w => LD Value.bool (Addr.add ⟨q55, 0, none⟩ 0) (fun b76 w => LD (Value.int .u8) (Addr.add ⟨q55, 0, none⟩ 1) (fun n77 w => LD Value.string (Addr.add ⟨q55, 0, none⟩ 2) (fun s78 w => k (.tuple #[.agg #[.bool b76, .int .u8 n77, .string s78], .int .i64 0]) w) w) w) w) w) w) w) w)) w) w) w) w)) w)) w)) w)) w)) (brK (decide (n57 < 0)) (ST (Addr.add ⟨q55, 0, none⟩ 0) (.bool false) (fun w => ST (Addr.add ⟨q55, 0, none⟩ 1) (.int .u8 0) (fun w => ST (Addr.add ⟨q55, 0, none⟩ 2) (.string (⟨#[]⟩ : ByteArray)) (fun w => LD Value.bool (Addr.add ⟨q55, 0, none⟩ 0) (fun b79 w => LD (Value.int .u8) (Addr.add ⟨q55, 0, none⟩ 1) (fun n80 w => LD Value.string (Addr.add ⟨q55, 0, none⟩ 2) (fun s81 w => k (.tuple #[.agg #[.bool b79, .int .u8 n80, .string s81], .int .i64 0]) w) w) w) w) w) w) w) (NN p53 (fun a82 => LD slv (Addr.add a82 7) (fun l83 w => IX l83 n57 1 (fun a84 => LD Value.string a84 (fun s85 w => DRC (fun C w => NN p53 (fun a86 => STL C slv (Addr.add a86 7) (fun l87 => RQ (0 ≤ (n57 : Int) ∧ (n57 : Int) ≤ ((l87.2.2 : Nat) : Int)) (NN p53 (fun a88 => STL C slv (Addr.add a88 7) (fun l89 => RQ (0 ≤ (IntKind.wrap .i64 (n57 + 1) : Int) ∧ (IntKind.wrap .i64 (n57 + 1) : Int) ≤ ((l89.2.1 : Nat) : Int)) (AL (.cells #[] 9) (fun q90 w => C w ∧ APP 9 1 16 #[.string (⟨#[]⟩ : ByteArray)] ((some ⟨q90, 0, none⟩), 0, 0) ((slSub l87 0 ((n57 : Int).toNat) 1).2.1) (fun w => cellsOfS w (slSub l87 0 ((n57 : Int).toNat) 1) (((slSub l87 0 ((n57 : Int).toNat) 1).2.1) * 1)) (fun l91 w => C w ∧ APP 9 1 16 #[.string (⟨#[]⟩ : ByteArray)] l91 ((slSub l89 ((IntKind.wrap .i64 (n57 + 1) : Int).toNat) l89.2.1 1).2.1) (fun w => cellsOfS w (slSub l89 ((IntKind.wrap .i64 (n57 + 1) : Int).toNat) l89.2.1 1) (((slSub l89 ((IntKind.wrap .i64 (n57 + 1) : Int).toNat) l89.2.1 1).2.1) * 1)) (fun l92 w => NN p53 (fun a93 => ST (Addr.add (Addr.add a93 7) 0) (slv l92) (fun w => ST (Addr.add ⟨q55, 0, none⟩ 0) (.bool false) (fun w => ST (Addr.add ⟨q55, 0, none⟩ 1) (.int .u8 98) (fun w => ST (Addr.add ⟨q55, 0, none⟩ 2) (.string s85) (fun w => LD Value.bool (Addr.add ⟨q55, 0, none⟩ 0) (fun b94 w => LD (Value.int .u8) (Addr.add ⟨q55, 0, none⟩ 1) (fun n95 w => LD Value.string (Addr.add ⟨q55, 0, none⟩ 2) (fun s96 w => k (.tuple #[.agg #[.bool b94, .int .u8 n95, .string s96], .int .i64 0]) w) w) w) w) w) w) w) w)) w) w) w))))))) w) w)) w)))) w
def f60.J3p (k : Value → World → Prop) : Act → World → Prop := PJ 116 [115, 112, 111, 109, 107] fun us ds w => un us fun v us => asP v fun p53 => un us fun v us => asBox v fun q54 => un us fun v us => asBox v fun q55 => un us fun v us => asStr v fun s56 => un us fun v us => asI .i64 v fun n57 => nl us (dn ds (f60.J3 p53 q54 q55 s56 n57 k w))
def f60.Q3 (k : Value → World → Prop) : Exit → Act → World → Prop := (Exit.inBlock 2 (Exit.then (f60.J3p k) (retQ Tryz.prog [.cell 4 24, .tmp 5] k)))
def f60.L4lp (p33 : Option Addr) (q34 : Nat) (q35 : Nat) (s36 : ByteArray) (n37 : Int) (n38 : Int) (k : Value → World → Prop) (w : World) : Prop := ∀ D : Nat → Value, (Code.loop (codeAt f60.body [1, 1, 1, 1, 1, 1, 0, 1, 0, 0])).wpIn (Wd none) 0 Tryz.prog (f60.Q3 k) (fr D 116 [115, 112, 111, 109, 107, 106] [.pointer p33, .pointer (some ⟨q34, 0, none⟩), .pointer (some ⟨q35, 0, none⟩), .string s36, .int .i64 n37, .int .i64 n38] []) w
def f60.J1 (p29 : Option Addr) (q30 : Nat) (q31 : Nat) (s32 : ByteArray) (k : Value → World → Prop) (w : World) : Prop :=
  f60.L4lp p29 q30 q31 s32 (-1) 0 k w
def f60.J1p (k : Value → World → Prop) : Act → World → Prop := PJ 116 [115, 112, 111, 109] fun us ds w => un us fun v us => asP v fun p29 => un us fun v us => asBox v fun q30 => un us fun v us => asBox v fun q31 => un us fun v us => asStr v fun s32 => nl us (dn ds (f60.J1 p29 q30 q31 s32 k w))
def f60.Q1 (k : Value → World → Prop) : Exit → Act → World → Prop := (Exit.inBlock 0 (Exit.then (f60.J1p k) (retQ Tryz.prog [.cell 4 24, .tmp 5] k)))
def f60.L2k (Kn1 : Option Addr → Nat → Nat → ByteArray → Int → World → Prop) : Act → World → Prop := PJ 116 [115, 112, 111, 109, 108] fun us ds w => un us fun v us => asP v fun p20 => un us fun v us => asBox v fun q21 => un us fun v us => asBox v fun q22 => un us fun v us => asStr v fun s23 => un us fun v us => asI .i64 v fun n24 => nl us (dn ds (Kn1 p20 q21 q22 s23 n24 w))
def f60.Q2 (k : Value → World → Prop) : Exit → Act → World → Prop := (retQ Tryz.prog [.cell 4 24, .tmp 5] k)
def f60.L4k (Kn1 : Option Addr → Nat → Nat → ByteArray → Int → Int → World → Prop) : Act → World → Prop := PJ 116 [115, 112, 111, 109, 107, 106] fun us ds w => un us fun v us => asP v fun p33 => un us fun v us => asBox v fun q34 => un us fun v us => asBox v fun q35 => un us fun v us => asStr v fun s36 => un us fun v us => asI .i64 v fun n37 => un us fun v us => asI .i64 v fun n38 => nl us (dn ds (Kn1 p33 q34 q35 s36 n37 n38 w))
def f60.Q4 (Kn1 : Option Addr → Nat → Nat → ByteArray → Int → Int → World → Prop) (k : Value → World → Prop) : Exit → Act → World → Prop := (Exit.then (f60.L4k Kn1) (f60.Q3 k))
def f60.J5 (p47 : Option Addr) (q48 : Nat) (q49 : Nat) (s50 : ByteArray) (n51 : Int) (n52 : Int) (Kn1 : Option Addr → Nat → Nat → ByteArray → Int → Int → World → Prop) (k : Value → World → Prop) (w : World) : Prop :=
  Kn1 p47 q48 q49 s50 n51 (IntKind.wrap .i64 (n52 + 1)) w
def f60.J5p (Kn1 : Option Addr → Nat → Nat → ByteArray → Int → Int → World → Prop) (k : Value → World → Prop) : Act → World → Prop := PJ 116 [115, 112, 111, 109, 107, 106] fun us ds w => un us fun v us => asP v fun p47 => un us fun v us => asBox v fun q48 => un us fun v us => asBox v fun q49 => un us fun v us => asStr v fun s50 => un us fun v us => asI .i64 v fun n51 => un us fun v us => asI .i64 v fun n52 => nl us (dn ds (f60.J5 p47 q48 q49 s50 n51 n52 Kn1 k w))
def f60.L4 (p33 : Option Addr) (q34 : Nat) (q35 : Nat) (s36 : ByteArray) (n37 : Int) (n38 : Int) (Kn1 : Option Addr → Nat → Nat → ByteArray → Int → Int → World → Prop) (k : Value → World → Prop) (w : World) : Prop :=
  NN p33 (fun a39 => LD slv (Addr.add a39 7) (fun l40 w => brK (decide (n38 < ((l40.2.1 : Nat) : Int))) (NN p33 (fun a41 => LD slv (Addr.add a41 7) (fun l42 w => IX l42 n38 1 (fun a43 => LD Value.string a43 (fun s44 w => CALL Tryz.prog 96 #[.string s44, .string s36] (fun v45 w => ∃ b46 : Bool, v45 = .bool b46 ∧ brK b46 (f60.J5 p33 q34 q35 s36 n38 n38 Kn1 k w) (f60.J5 p33 q34 q35 s36 n37 n38 Kn1 k w)) w) w)) w)) (f60.J3 p33 q34 q35 s36 n37 k w)) w)
def f60.L4p (k : Value → World → Prop) : Act → World → Prop := PJ 116 [115, 112, 111, 109, 107, 106] fun us ds w => un us fun v us => asP v fun p33 => un us fun v us => asBox v fun q34 => un us fun v us => asBox v fun q35 => un us fun v us => asStr v fun s36 => un us fun v us => asI .i64 v fun n37 => un us fun v us => asI .i64 v fun n38 => nl us (dn ds (f60.L4lp p33 q34 q35 s36 n37 n38 k w))
def f60.L4K (p33 : Option Addr) (q34 : Nat) (q35 : Nat) (s36 : ByteArray) (I : Int → Int → World → Prop) (μ : Int → Int → World → Nat) (m : Nat) (p33' : Option Addr) (q34' : Nat) (q35' : Nat) (s36' : ByteArray) (n37' : Int) (n38' : Int) (w : World) : Prop := (p33' = p33 ∧ q34' = q34 ∧ q35' = q35 ∧ s36' = s36) ∧ I n37' n38' w ∧ μ n37' n38' w < m
def f60.L2 (p20 : Option Addr) (q21 : Nat) (q22 : Nat) (s23 : ByteArray) (n24 : Int) (Kn1 : Option Addr → Nat → Nat → ByteArray → Int → World → Prop) (k : Value → World → Prop) (w : World) : Prop :=
  brK (decide (n24 < ((s23.size : Nat) : Int))) (SIX s23 n24 (fun c25 => brK (c25 == 32) (ST (Addr.add ⟨q22, 0, none⟩ 0) (.bool false) (fun w => ST (Addr.add ⟨q22, 0, none⟩ 1) (.int .u8 0) (fun w => ST (Addr.add ⟨q22, 0, none⟩ 2) (.string (⟨#[]⟩ : ByteArray)) (fun w => LD Value.bool (Addr.add ⟨q22, 0, none⟩ 0) (fun b26 w => LD (Value.int .u8) (Addr.add ⟨q22, 0, none⟩ 1) (fun n27 w => LD Value.string (Addr.add ⟨q22, 0, none⟩ 2) (fun s28 w => k (.tuple #[.agg #[.bool b26, .int .u8 n27, .string s28], .int .i64 0]) w) w) w) w) w) w) w) (Kn1 p20 q21 q22 s23 (IntKind.wrap .i64 (n24 + 1)) w))) (f60.J1 p20 q21 q22 s23 k w)
def f60.L2lp (p20 : Option Addr) (q21 : Nat) (q22 : Nat) (s23 : ByteArray) (n24 : Int) (k : Value → World → Prop) (w : World) : Prop := ∀ D : Nat → Value, (Code.loop (codeAt f60.body [1, 1, 1, 1, 0, 1, 0, 0])).wpIn (Wd none) 0 Tryz.prog (f60.Q1 k) (fr D 116 [115, 112, 111, 109, 108] [.pointer p20, .pointer (some ⟨q21, 0, none⟩), .pointer (some ⟨q22, 0, none⟩), .string s23, .int .i64 n24] []) w
def f60.L2p (k : Value → World → Prop) : Act → World → Prop := PJ 116 [115, 112, 111, 109, 108] fun us ds w => un us fun v us => asP v fun p20 => un us fun v us => asBox v fun q21 => un us fun v us => asBox v fun q22 => un us fun v us => asStr v fun s23 => un us fun v us => asI .i64 v fun n24 => nl us (dn ds (f60.L2lp p20 q21 q22 s23 n24 k w))
def f60.L2K (p20 : Option Addr) (q21 : Nat) (q22 : Nat) (s23 : ByteArray) (I : Int → World → Prop) (μ : Int → World → Nat) (m : Nat) (p20' : Option Addr) (q21' : Nat) (q22' : Nat) (s23' : ByteArray) (n24' : Int) (w : World) : Prop := (p20' = p20 ∧ q21' = q21 ∧ q22' = q22 ∧ s23' = s23) ∧ I n24' w ∧ μ n24' w < m
theorem f60.J5_den (D : Nat → Value) (p47 : Option Addr) (q48 : Nat) (q49 : Nat) (s50 : ByteArray) (n51 : Int) (n52 : Int) (Kn1 : Option Addr → Nat → Nat → ByteArray → Int → Int → World → Prop) (k : Value → World → Prop) (w : World) : pc Tryz.prog none .none (codeAt f60.body [1, 1, 1, 1, 1, 1, 0, 1, 0, 0, 1, 1]) (f60.Q4 Kn1 k) D 116 [115, 112, 111, 109, 107, 106] [.pointer p47, .pointer (some ⟨q48, 0, none⟩), .pointer (some ⟨q49, 0, none⟩), .string s50, .int .i64 n51, .int .i64 n52] [] w = f60.J5 p47 q48 q49 s50 n51 n52 Kn1 k w := by kernel_rfl
theorem f60.J5_okc {Kn1 : Option Addr → Nat → Nat → ByteArray → Int → Int → World → Prop} {k : Value → World → Prop} : okC Tryz.prog none .none (codeAt f60.body [1, 1, 1, 1, 1, 1, 0, 1, 0, 0, 1, 1]) (f60.Q4 Kn1 k) :=
  Eq.mpr (by kernel_rfl : okC Tryz.prog none .none (codeAt f60.body [1, 1, 1, 1, 1, 1, 0, 1, 0, 0, 1, 1]) (f60.Q4 Kn1 k) = (True)) (trivial)
theorem f60.J5_ok {Kn1 : Option Addr → Nat → Nat → ByteArray → Int → Int → World → Prop} {k : Value → World → Prop} : OKJ Tryz.prog none (f60.J5p Kn1 k) (codeAt f60.body [1, 1, 1, 1, 1, 1, 0, 1, 0, 0, 1, 1]) (f60.Q4 Kn1 k) := by
  intro a w h
  obtain ⟨D, us, ds, rfl, h0⟩ := PJ_out h
  obtain ⟨v, us, rfl, h1⟩ := un_out h0
  obtain ⟨p47, rfl, h2⟩ := asP_out h1
  obtain ⟨v, us, rfl, h3⟩ := un_out h2
  obtain ⟨q48, rfl, h4⟩ := asBox_out h3
  obtain ⟨v, us, rfl, h5⟩ := un_out h4
  obtain ⟨q49, rfl, h6⟩ := asBox_out h5
  obtain ⟨v, us, rfl, h7⟩ := un_out h6
  obtain ⟨s50, rfl, h8⟩ := asStr_out h7
  obtain ⟨v, us, rfl, h9⟩ := un_out h8
  obtain ⟨n51, rfl, h10⟩ := asI_out h9
  obtain ⟨v, us, rfl, h11⟩ := un_out h10
  obtain ⟨n52, rfl, h12⟩ := asI_out h11
  obtain ⟨rfl, h13⟩ := nl_out h12
  obtain ⟨rfl, h14⟩ := dn_out h13
  rw [← f60.J5_den D p47 q48 q49 s50 n51 n52 Kn1 k w] at h14
  exact pc_wp Tryz.mixed f60.J5_okc h14
theorem f60.J3_den (D : Nat → Value) (p53 : Option Addr) (q54 : Nat) (q55 : Nat) (s56 : ByteArray) (n57 : Int) (k : Value → World → Prop) (w : World) : pc Tryz.prog none .none (codeAt f60.body [1, 1, 1, 1, 1, 1, 1]) (f60.Q2 k) D 116 [115, 112, 111, 109, 107] [.pointer p53, .pointer (some ⟨q54, 0, none⟩), .pointer (some ⟨q55, 0, none⟩), .string s56, .int .i64 n57] [] w = f60.J3 p53 q54 q55 s56 n57 k w := by kernel_rfl
theorem f60.J3_okc {k : Value → World → Prop} : okC Tryz.prog none .none (codeAt f60.body [1, 1, 1, 1, 1, 1, 1]) (f60.Q2 k) :=
  Eq.mpr (by kernel_rfl : okC Tryz.prog none .none (codeAt f60.body [1, 1, 1, 1, 1, 1, 1]) (f60.Q2 k) = (True)) (trivial)
theorem f60.J3_ok {k : Value → World → Prop} : OKJ Tryz.prog none (f60.J3p k) (codeAt f60.body [1, 1, 1, 1, 1, 1, 1]) (f60.Q2 k) := by
  intro a w h
  obtain ⟨D, us, ds, rfl, h0⟩ := PJ_out h
  obtain ⟨v, us, rfl, h1⟩ := un_out h0
  obtain ⟨p53, rfl, h2⟩ := asP_out h1
  obtain ⟨v, us, rfl, h3⟩ := un_out h2
  obtain ⟨q54, rfl, h4⟩ := asBox_out h3
  obtain ⟨v, us, rfl, h5⟩ := un_out h4
  obtain ⟨q55, rfl, h6⟩ := asBox_out h5
  obtain ⟨v, us, rfl, h7⟩ := un_out h6
  obtain ⟨s56, rfl, h8⟩ := asStr_out h7
  obtain ⟨v, us, rfl, h9⟩ := un_out h8
  obtain ⟨n57, rfl, h10⟩ := asI_out h9
  obtain ⟨rfl, h11⟩ := nl_out h10
  obtain ⟨rfl, h12⟩ := dn_out h11
  rw [← f60.J3_den D p53 q54 q55 s56 n57 k w] at h12
  exact pc_wp Tryz.mixed f60.J3_okc h12
theorem f60.L4_next {p33 : Option Addr} {q34 : Nat} {q35 : Nat} {s36 : ByteArray} {I : Int → Int → World → Prop} {μ : Int → Int → World → Nat} {m : Nat} {n37 : Int} {n38 : Int} {w : World} (hI : I n37 n38 w) (hlt : μ n37 n38 w < m) : f60.L4K p33 q34 q35 s36 I μ m p33 q34 q35 s36 n37 n38 w := ⟨⟨rfl, rfl, rfl, rfl⟩, hI, hlt⟩
theorem f60.L4_den (D : Nat → Value) (p33 : Option Addr) (q34 : Nat) (q35 : Nat) (s36 : ByteArray) (n37 : Int) (n38 : Int) (Kn1 : Option Addr → Nat → Nat → ByteArray → Int → Int → World → Prop) (k : Value → World → Prop) (w : World) : pc Tryz.prog none (.seq none .none (.seq (some (f60.J5p Kn1 k)) .none .none)) (codeAt f60.body [1, 1, 1, 1, 1, 1, 0, 1, 0, 0]) (Exit.then (f60.L4k Kn1) (f60.Q3 k)) D 116 [115, 112, 111, 109, 107, 106] [.pointer p33, .pointer (some ⟨q34, 0, none⟩), .pointer (some ⟨q35, 0, none⟩), .string s36, .int .i64 n37, .int .i64 n38] [] w = f60.L4 p33 q34 q35 s36 n37 n38 Kn1 k w := by kernel_rfl
theorem f60.L4_okc {Kn1 : Option Addr → Nat → Nat → ByteArray → Int → Int → World → Prop} {k : Value → World → Prop} : okC Tryz.prog none (.seq none .none (.seq (some (f60.J5p Kn1 k)) .none .none)) (codeAt f60.body [1, 1, 1, 1, 1, 1, 0, 1, 0, 0]) (Exit.then (f60.L4k Kn1) (f60.Q3 k)) :=
  Eq.mpr (by kernel_rfl : okC Tryz.prog none (.seq none .none (.seq (some (f60.J5p Kn1 k)) .none .none)) (codeAt f60.body [1, 1, 1, 1, 1, 1, 0, 1, 0, 0]) (Exit.then (f60.L4k Kn1) (f60.Q3 k)) = (((True) ∧ (((True) ∧ OKJ Tryz.prog none (f60.J5p Kn1 k) (codeAt f60.body [1, 1, 1, 1, 1, 1, 0, 1, 0, 0, 1, 1]) (f60.Q4 Kn1 k)))))) (⟨trivial, ⟨trivial, f60.J5_ok⟩⟩)
theorem f60.L4_ok {k : Value → World → Prop} : OKJ Tryz.prog none (f60.L4p k) (codeAt f60.body [1, 1, 1, 1, 1, 1, 0, 1, 0]) (f60.Q3 k) := by
  intro a w h
  obtain ⟨D, us, ds, rfl, h0⟩ := PJ_out h
  obtain ⟨v, us, rfl, h1⟩ := un_out h0
  obtain ⟨p33, rfl, h2⟩ := asP_out h1
  obtain ⟨v, us, rfl, h3⟩ := un_out h2
  obtain ⟨q34, rfl, h4⟩ := asBox_out h3
  obtain ⟨v, us, rfl, h5⟩ := un_out h4
  obtain ⟨q35, rfl, h6⟩ := asBox_out h5
  obtain ⟨v, us, rfl, h7⟩ := un_out h6
  obtain ⟨s36, rfl, h8⟩ := asStr_out h7
  obtain ⟨v, us, rfl, h9⟩ := un_out h8
  obtain ⟨n37, rfl, h10⟩ := asI_out h9
  obtain ⟨v, us, rfl, h11⟩ := un_out h10
  obtain ⟨n38, rfl, h12⟩ := asI_out h11
  obtain ⟨rfl, h13⟩ := nl_out h12
  obtain ⟨rfl, h14⟩ := dn_out h13
  rw [show (codeAt f60.body [1, 1, 1, 1, 1, 1, 0, 1, 0]) = Code.loop (codeAt f60.body [1, 1, 1, 1, 1, 1, 0, 1, 0, 0]) by kernel_rfl]
  exact h14 D
theorem f60.L4_rule {p33 : Option Addr} {q34 : Nat} {q35 : Nat} {s36 : ByteArray} {k : Value → World → Prop} (I : Int → Int → World → Prop) (μ : Int → Int → World → Nat) {n37 : Int} {n38 : Int} {w : World} (h0 : I n37 n38 w)
    (hr : ∀ (n37 : Int) (n38 : Int) (w : World), I n37 n38 w → f60.L4 p33 q34 q35 s36 n37 n38 (f60.L4K p33 q34 q35 s36 I μ (μ n37 n38 w)) k w) : f60.L4lp p33 q34 q35 s36 n37 n38 k w := by
  intro D0
  refine loop_ind (P := Tryz.prog) (fun m a w => ∃ n37 : Int, ∃ n38 : Int, ∃ D : Nat → Value, a = fr D 116 [115, 112, 111, 109, 107, 106] [.pointer p33, .pointer (some ⟨q34, 0, none⟩), .pointer (some ⟨q35, 0, none⟩), .string s36, .int .i64 n37, .int .i64 n38] [] ∧ I n37 n38 w ∧ μ n37 n38 w = m) ?_ (μ n37 n38 w) ⟨_, _, D0, rfl, h0, rfl⟩
  rintro m a w ⟨n37, n38, D, rfl, hI, rfl⟩
  have h := hr n37 n38 w hI
  rw [← f60.L4_den D p33 q34 q35 s36 n37 n38 (f60.L4K p33 q34 q35 s36 I μ (μ n37 n38 w)) k w] at h
  refine then_mono (pc_wp Tryz.mixed f60.L4_okc h) ?_
  clear h
  intro a w h
  obtain ⟨D, us, ds, rfl, h0⟩ := PJ_out h
  obtain ⟨v, us, rfl, h1⟩ := un_out h0
  obtain ⟨p33', rfl, h2⟩ := asP_out h1
  obtain ⟨v, us, rfl, h3⟩ := un_out h2
  obtain ⟨q34', rfl, h4⟩ := asBox_out h3
  obtain ⟨v, us, rfl, h5⟩ := un_out h4
  obtain ⟨q35', rfl, h6⟩ := asBox_out h5
  obtain ⟨v, us, rfl, h7⟩ := un_out h6
  obtain ⟨s36', rfl, h8⟩ := asStr_out h7
  obtain ⟨v, us, rfl, h9⟩ := un_out h8
  obtain ⟨n37', rfl, h10⟩ := asI_out h9
  obtain ⟨v, us, rfl, h11⟩ := un_out h10
  obtain ⟨n38', rfl, h12⟩ := asI_out h11
  obtain ⟨rfl, h13⟩ := nl_out h12
  obtain ⟨rfl, h14⟩ := dn_out h13
  obtain ⟨⟨rfl, rfl, rfl, rfl⟩, hI, hlt⟩ := h14
  exact ⟨_, hlt, _, _, D, rfl, hI, rfl⟩
theorem f60.J1_den (D : Nat → Value) (p29 : Option Addr) (q30 : Nat) (q31 : Nat) (s32 : ByteArray) (k : Value → World → Prop) (w : World) : pc Tryz.prog none (.seq none .none (.seq (some (f60.J3p k)) (.seq none .none (.block (.at (f60.L4p k)))) .none)) (codeAt f60.body [1, 1, 1, 1, 1]) (f60.Q2 k) D 116 [115, 112, 111, 109] [.pointer p29, .pointer (some ⟨q30, 0, none⟩), .pointer (some ⟨q31, 0, none⟩), .string s32] [] w = f60.J1 p29 q30 q31 s32 k w := by kernel_rfl
theorem f60.J1_okc {k : Value → World → Prop} : okC Tryz.prog none (.seq none .none (.seq (some (f60.J3p k)) (.seq none .none (.block (.at (f60.L4p k)))) .none)) (codeAt f60.body [1, 1, 1, 1, 1]) (f60.Q2 k) :=
  Eq.mpr (by kernel_rfl : okC Tryz.prog none (.seq none .none (.seq (some (f60.J3p k)) (.seq none .none (.block (.at (f60.L4p k)))) .none)) (codeAt f60.body [1, 1, 1, 1, 1]) (f60.Q2 k) = (((True) ∧ (((((True) ∧ (OKJ Tryz.prog none (f60.L4p k) (codeAt f60.body [1, 1, 1, 1, 1, 1, 0, 1, 0]) (f60.Q3 k)))) ∧ OKJ Tryz.prog none (f60.J3p k) (codeAt f60.body [1, 1, 1, 1, 1, 1, 1]) (f60.Q2 k)))))) (⟨trivial, ⟨⟨trivial, f60.L4_ok⟩, f60.J3_ok⟩⟩)
theorem f60.J1_ok {k : Value → World → Prop} : OKJ Tryz.prog none (f60.J1p k) (codeAt f60.body [1, 1, 1, 1, 1]) (f60.Q2 k) := by
  intro a w h
  obtain ⟨D, us, ds, rfl, h0⟩ := PJ_out h
  obtain ⟨v, us, rfl, h1⟩ := un_out h0
  obtain ⟨p29, rfl, h2⟩ := asP_out h1
  obtain ⟨v, us, rfl, h3⟩ := un_out h2
  obtain ⟨q30, rfl, h4⟩ := asBox_out h3
  obtain ⟨v, us, rfl, h5⟩ := un_out h4
  obtain ⟨q31, rfl, h6⟩ := asBox_out h5
  obtain ⟨v, us, rfl, h7⟩ := un_out h6
  obtain ⟨s32, rfl, h8⟩ := asStr_out h7
  obtain ⟨rfl, h9⟩ := nl_out h8
  obtain ⟨rfl, h10⟩ := dn_out h9
  rw [← f60.J1_den D p29 q30 q31 s32 k w] at h10
  exact pc_wp Tryz.mixed f60.J1_okc h10
theorem f60.L2_next {p20 : Option Addr} {q21 : Nat} {q22 : Nat} {s23 : ByteArray} {I : Int → World → Prop} {μ : Int → World → Nat} {m : Nat} {n24 : Int} {w : World} (hI : I n24 w) (hlt : μ n24 w < m) : f60.L2K p20 q21 q22 s23 I μ m p20 q21 q22 s23 n24 w := ⟨⟨rfl, rfl, rfl, rfl⟩, hI, hlt⟩
theorem f60.L2_den (D : Nat → Value) (p20 : Option Addr) (q21 : Nat) (q22 : Nat) (s23 : ByteArray) (n24 : Int) (Kn1 : Option Addr → Nat → Nat → ByteArray → Int → World → Prop) (k : Value → World → Prop) (w : World) : pc Tryz.prog none .none (codeAt f60.body [1, 1, 1, 1, 0, 1, 0, 0]) (Exit.then (f60.L2k Kn1) (f60.Q1 k)) D 116 [115, 112, 111, 109, 108] [.pointer p20, .pointer (some ⟨q21, 0, none⟩), .pointer (some ⟨q22, 0, none⟩), .string s23, .int .i64 n24] [] w = f60.L2 p20 q21 q22 s23 n24 Kn1 k w := by kernel_rfl
theorem f60.L2_okc {Kn1 : Option Addr → Nat → Nat → ByteArray → Int → World → Prop} {k : Value → World → Prop} : okC Tryz.prog none .none (codeAt f60.body [1, 1, 1, 1, 0, 1, 0, 0]) (Exit.then (f60.L2k Kn1) (f60.Q1 k)) :=
  Eq.mpr (by kernel_rfl : okC Tryz.prog none .none (codeAt f60.body [1, 1, 1, 1, 0, 1, 0, 0]) (Exit.then (f60.L2k Kn1) (f60.Q1 k)) = (True)) (trivial)
theorem f60.L2_ok {k : Value → World → Prop} : OKJ Tryz.prog none (f60.L2p k) (codeAt f60.body [1, 1, 1, 1, 0, 1, 0]) (f60.Q1 k) := by
  intro a w h
  obtain ⟨D, us, ds, rfl, h0⟩ := PJ_out h
  obtain ⟨v, us, rfl, h1⟩ := un_out h0
  obtain ⟨p20, rfl, h2⟩ := asP_out h1
  obtain ⟨v, us, rfl, h3⟩ := un_out h2
  obtain ⟨q21, rfl, h4⟩ := asBox_out h3
  obtain ⟨v, us, rfl, h5⟩ := un_out h4
  obtain ⟨q22, rfl, h6⟩ := asBox_out h5
  obtain ⟨v, us, rfl, h7⟩ := un_out h6
  obtain ⟨s23, rfl, h8⟩ := asStr_out h7
  obtain ⟨v, us, rfl, h9⟩ := un_out h8
  obtain ⟨n24, rfl, h10⟩ := asI_out h9
  obtain ⟨rfl, h11⟩ := nl_out h10
  obtain ⟨rfl, h12⟩ := dn_out h11
  rw [show (codeAt f60.body [1, 1, 1, 1, 0, 1, 0]) = Code.loop (codeAt f60.body [1, 1, 1, 1, 0, 1, 0, 0]) by kernel_rfl]
  exact h12 D
theorem f60.L2_rule {p20 : Option Addr} {q21 : Nat} {q22 : Nat} {s23 : ByteArray} {k : Value → World → Prop} (I : Int → World → Prop) (μ : Int → World → Nat) {n24 : Int} {w : World} (h0 : I n24 w)
    (hr : ∀ (n24 : Int) (w : World), I n24 w → f60.L2 p20 q21 q22 s23 n24 (f60.L2K p20 q21 q22 s23 I μ (μ n24 w)) k w) : f60.L2lp p20 q21 q22 s23 n24 k w := by
  intro D0
  refine loop_ind (P := Tryz.prog) (fun m a w => ∃ n24 : Int, ∃ D : Nat → Value, a = fr D 116 [115, 112, 111, 109, 108] [.pointer p20, .pointer (some ⟨q21, 0, none⟩), .pointer (some ⟨q22, 0, none⟩), .string s23, .int .i64 n24] [] ∧ I n24 w ∧ μ n24 w = m) ?_ (μ n24 w) ⟨_, D0, rfl, h0, rfl⟩
  rintro m a w ⟨n24, D, rfl, hI, rfl⟩
  have h := hr n24 w hI
  rw [← f60.L2_den D p20 q21 q22 s23 n24 (f60.L2K p20 q21 q22 s23 I μ (μ n24 w)) k w] at h
  refine then_mono (pc_wp Tryz.mixed f60.L2_okc h) ?_
  clear h
  intro a w h
  obtain ⟨D, us, ds, rfl, h0⟩ := PJ_out h
  obtain ⟨v, us, rfl, h1⟩ := un_out h0
  obtain ⟨p20', rfl, h2⟩ := asP_out h1
  obtain ⟨v, us, rfl, h3⟩ := un_out h2
  obtain ⟨q21', rfl, h4⟩ := asBox_out h3
  obtain ⟨v, us, rfl, h5⟩ := un_out h4
  obtain ⟨q22', rfl, h6⟩ := asBox_out h5
  obtain ⟨v, us, rfl, h7⟩ := un_out h6
  obtain ⟨s23', rfl, h8⟩ := asStr_out h7
  obtain ⟨v, us, rfl, h9⟩ := un_out h8
  obtain ⟨n24', rfl, h10⟩ := asI_out h9
  obtain ⟨rfl, h11⟩ := nl_out h10
  obtain ⟨rfl, h12⟩ := dn_out h11
  obtain ⟨⟨rfl, rfl, rfl, rfl⟩, hI, hlt⟩ := h12
  exact ⟨_, hlt, _, D, rfl, hI, rfl⟩
def f60.b (p1 : Option Addr) (b2 : Bool) (n3 : Int) (s4 : ByteArray) (k : Value → World → Prop) (w : World) : Prop :=
  AL (.cells #[.bool b2, .int .u8 n3, .string s4] 24) (fun q5 w => AL (.cells #[.bool false, .int .u8 0, .string (⟨#[]⟩ : ByteArray)] 24) (fun q6 w => LD Value.string (Addr.add ⟨q5, 0, none⟩ 2) (fun s7 w => brK (decide ((s7 : ByteArray) = (⟨#[]⟩ : ByteArray))) (ST (Addr.add ⟨q6, 0, none⟩ 0) (.bool false) (fun w => ST (Addr.add ⟨q6, 0, none⟩ 1) (.int .u8 0) (fun w => ST (Addr.add ⟨q6, 0, none⟩ 2) (.string (⟨#[]⟩ : ByteArray)) (fun w => LD Value.bool (Addr.add ⟨q6, 0, none⟩ 0) (fun b8 w => LD (Value.int .u8) (Addr.add ⟨q6, 0, none⟩ 1) (fun n9 w => LD Value.string (Addr.add ⟨q6, 0, none⟩ 2) (fun s10 w => k (.tuple #[.agg #[.bool b8, .int .u8 n9, .string s10], .int .i64 0]) w) w) w) w) w) w) w) (LD Value.string (Addr.add ⟨q5, 0, none⟩ 2) (fun s11 w => LD Value.string (Addr.add ⟨q5, 0, none⟩ 2) (fun s12 w => CALL Tryz.prog 95 #[.string s11, .int .i64 ((s12.size : Nat) : Int)] (fun v13 w => ∃ s14 : ByteArray, v13 = .string s14 ∧ CALL Tryz.prog 94 #[.string s14] (fun v15 w => ∃ s16 : ByteArray, v15 = .string s16 ∧ brK (decide ((100 : Int) < ((s16.size : Nat) : Int))) (ST (Addr.add ⟨q6, 0, none⟩ 0) (.bool false) (fun w => ST (Addr.add ⟨q6, 0, none⟩ 1) (.int .u8 0) (fun w => ST (Addr.add ⟨q6, 0, none⟩ 2) (.string (⟨#[]⟩ : ByteArray)) (fun w => LD Value.bool (Addr.add ⟨q6, 0, none⟩ 0) (fun b17 w => LD (Value.int .u8) (Addr.add ⟨q6, 0, none⟩ 1) (fun n18 w => LD Value.string (Addr.add ⟨q6, 0, none⟩ 2) (fun s19 w => k (.tuple #[.agg #[.bool b17, .int .u8 n18, .string s19], .int .i64 0]) w) w) w) w) w) w) w) (f60.L2lp p1 q5 q6 s16 0 k w)) w) w) w) w)) w) w) w
theorem f60.den (p1 : Option Addr) (b2 : Bool) (n3 : Int) (s4 : ByteArray) (k : Value → World → Prop) (w : World) : pc Tryz.prog none (.seq none .none (.seq none .none (.seq none .none (.seq none .none (.seq (some (f60.J1p k)) (.seq none .none (.block (.at (f60.L2p k)))) .none))))) f60.body (retQ Tryz.prog [.cell 4 24, .tmp 5] k) (fun _ => undef) 116 [115, 114] [.pointer p1, .agg #[.bool b2, .int .u8 n3, .string s4]] [] w = f60.b p1 b2 n3 s4 k w := by kernel_rfl
theorem f60.okc {k : Value → World → Prop} : okC Tryz.prog none (.seq none .none (.seq none .none (.seq none .none (.seq none .none (.seq (some (f60.J1p k)) (.seq none .none (.block (.at (f60.L2p k)))) .none))))) f60.body (retQ Tryz.prog [.cell 4 24, .tmp 5] k) :=
  Eq.mpr (by kernel_rfl : okC Tryz.prog none (.seq none .none (.seq none .none (.seq none .none (.seq none .none (.seq (some (f60.J1p k)) (.seq none .none (.block (.at (f60.L2p k)))) .none))))) f60.body (retQ Tryz.prog [.cell 4 24, .tmp 5] k) = (((True) ∧ (((True) ∧ (((True) ∧ (((True) ∧ (((((True) ∧ (OKJ Tryz.prog none (f60.L2p k) (codeAt f60.body [1, 1, 1, 1, 0, 1, 0]) (f60.Q1 k)))) ∧ OKJ Tryz.prog none (f60.J1p k) (codeAt f60.body [1, 1, 1, 1, 1]) (f60.Q2 k)))))))))))) (⟨trivial, ⟨trivial, ⟨trivial, ⟨trivial, ⟨⟨trivial, f60.L2_ok⟩, f60.J1_ok⟩⟩⟩⟩⟩)
theorem f60.call {p1 : Option Addr} {b2 : Bool} {n3 : Int} {s4 : ByteArray} {k : Value → World → Prop} {w : World} (h : f60.b p1 b2 n3 s4 k w) : CALL Tryz.prog 60 #[.pointer p1, .agg #[.bool b2, .int .u8 n3, .string s4]] k w :=
  calls_of_pc Tryz.mixed Tryz.func60 (by kernel_rfl : Tryz.f60.body = some f60.body) (Tryz.call60 _ _) (by kernel_rfl : #[.pointer p1, .agg #[.bool b2, .int .u8 n3, .string s4]] ++ Array.replicate (Tryz.f60.ntmps - (#[.pointer p1, .agg #[.bool b2, .int .u8 n3, .string s4]] : Array Value).size) undef = (FR (fun _ => undef) 116 [115, 114] [.pointer p1, .agg #[.bool b2, .int .u8 n3, .string s4]]).toArray) (by kernel_rfl : Tryz.f60.results.toList = [.cell 4 24, .tmp 5]) f60.okc ((f60.den p1 b2 n3 s4 k w).symm ▸ h)
end Go.Proofs.YtlefdgplobifiaaGreatDoor
