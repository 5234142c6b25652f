/- Printed by gen2.py: the functions' bodies over the primitives of Den, in pieces. -/
import Derived.Test.YtlefdgplobifiaaGreatDoorCut
import Derived.Test.YtlefdgplobifiaaGreatDoorKit
namespace Go.Proofs.YtlefdgplobifiaaGreatDoor
open Go
set_option maxRecDepth 100000
set_option linter.unusedVariables false
/-! (*rollcall/rollcallref19.Room).Change -/
noncomputable def f35.body : Code := (Tryz.f35.body).getD .skip
def f35.J1 (q200 : Nat) (q201 : Nat) (k : Value → World → Prop) (w : World) : Prop :=
  LD Value.bool (Addr.add ⟨q201, 0, none⟩ 0) (fun b202 w => LD (Value.int .u8) (Addr.add ⟨q201, 0, none⟩ 1) (fun n203 w => LD Value.string (Addr.add ⟨q201, 0, none⟩ 2) (fun s204 w => ST (Addr.add ⟨q200, 0, none⟩ 0) (.bool b202) (fun w => ST (Addr.add ⟨q200, 0, none⟩ 1) (.int .u8 n203) (fun w => ST (Addr.add ⟨q200, 0, none⟩ 2) (.string s204) (fun w => LD Value.bool (Addr.add ⟨q200, 0, none⟩ 0) (fun b205 w => LD (Value.int .u8) (Addr.add ⟨q200, 0, none⟩ 1) (fun n206 w => LD Value.string (Addr.add ⟨q200, 0, none⟩ 2) (fun s207 w => k (.tuple #[.agg #[.bool b205, .int .u8 n206, .string s207], .int .i64 472]) w) w) w) w) w) w) w) w) w) w
def f35.J1p (k : Value → World → Prop) : Act → World → Prop := PJ 182 [175, 173] fun us ds w => un us fun v us => asBox v fun q200 => un us fun v us => asBox v fun q201 => nl us (dn ds (f35.J1 q200 q201 k w))
def f35.Q1 (k : Value → World → Prop) : Exit → Act → World → Prop := (Exit.inBlock 0 (Exit.then (f35.J1p k) (retQ Tryz.prog [.cell 6 24, .tmp 7] k)))
def f35.J6 (p53 : Option Addr) (q54 : Nat) (q55 : Nat) (s56 : ByteArray) (k : Value → World → Prop) (w : World) : Prop :=
  NN p53 (fun a57 => ST (Addr.add (Addr.add a57 4) 0) (.string s56) (fun w => LD Value.bool (Addr.add ⟨q54, 0, none⟩ 0) (fun b58 w => LD (Value.int .u8) (Addr.add ⟨q54, 0, none⟩ 1) (fun n59 w => ST (Addr.add ⟨q55, 0, none⟩ 0) (.bool b58) (fun w => ST (Addr.add ⟨q55, 0, none⟩ 1) (.int .u8 n59) (fun w => ST (Addr.add ⟨q55, 0, none⟩ 2) (.string (⟨#[]⟩ : ByteArray)) (fun w => LD Value.bool (Addr.add ⟨q55, 0, none⟩ 0) (fun b60 w => LD (Value.int .u8) (Addr.add ⟨q55, 0, none⟩ 1) (fun n61 w => LD Value.string (Addr.add ⟨q55, 0, none⟩ 2) (fun s62 w => k (.tuple #[.agg #[.bool b60, .int .u8 n61, .string s62], .int .i64 0]) w) w) w) w) w) w) w) w) w) w)
def f35.J3 (p45 : Option Addr) (q46 : Nat) (q47 : Nat) (s48 : ByteArray) (k : Value → World → Prop) (w : World) : Prop :=
  LD Value.bool (Addr.add ⟨q46, 0, none⟩ 0) (fun b49 w => brK b49 (LD (Value.int .u8) (Addr.add ⟨q46, 0, none⟩ 1) (fun n50 w => AL (.cells #[.int .u8 n50] 5) (fun q51 w => B2S ((some ⟨q51, 0, none⟩), 1, 1) (fun s52 w => RQ (((s48.size + s52.size : Nat) : Int) ≤ 9223372036854775807) (f35.J6 p45 q46 q47 (s48 ++ s52) k w)) w) w) w) (f35.J6 p45 q46 q47 s48 k w)) w
def f35.J3p (k : Value → World → Prop) : Act → World → Prop := PJ 182 [181, 177, 175, 172] fun us ds w => un us fun v us => asP v fun p45 => un us fun v us => asBox v fun q46 => un us fun v us => asBox v fun q47 => un us fun v us => asStr v fun s48 => nl us (dn ds (f35.J3 p45 q46 q47 s48 k w))
def f35.Q2 (k : Value → World → Prop) : Exit → Act → World → Prop := (Exit.inBlock 1 (Exit.then (f35.J3p k) (Exit.inBlock 0 (Exit.then (f35.J1p k) (retQ Tryz.prog [.cell 6 24, .tmp 7] k)))))
def f35.L4k (Kn1 : Option Addr → Nat → Nat → ByteArray → Int → World → Prop) : Act → World → Prop := PJ 182 [181, 177, 175, 172, 171] fun us ds w => un us fun v us => asP v fun p27 => un us fun v us => asBox v fun q28 => un us fun v us => asBox v fun q29 => un us fun v us => asStr v fun s30 => un us fun v us => asI .i64 v fun n31 => nl us (dn ds (Kn1 p27 q28 q29 s30 n31 w))
def f35.Q3 (Kn1 : Option Addr → Nat → Nat → ByteArray → Int → World → Prop) (k : Value → World → Prop) : Exit → Act → World → Prop := (Exit.then (f35.L4k Kn1) (f35.Q2 k))
def f35.J5 (p40 : Option Addr) (q41 : Nat) (q42 : Nat) (s43 : ByteArray) (n44 : Int) (Kn1 : Option Addr → Nat → Nat → ByteArray → Int → World → Prop) (k : Value → World → Prop) (w : World) : Prop :=
  Kn1 p40 q41 q42 s43 (IntKind.wrap .i64 (n44 + 1)) w
def f35.J5p (Kn1 : Option Addr → Nat → Nat → ByteArray → Int → World → Prop) (k : Value → World → Prop) : Act → World → Prop := PJ 182 [181, 177, 175, 172, 171] fun us ds w => un us fun v us => asP v fun p40 => un us fun v us => asBox v fun q41 => un us fun v us => asBox v fun q42 => un us fun v us => asStr v fun s43 => un us fun v us => asI .i64 v fun n44 => nl us (dn ds (f35.J5 p40 q41 q42 s43 n44 Kn1 k w))
def f35.J6p (k : Value → World → Prop) : Act → World → Prop := PJ 182 [181, 177, 175, 172] fun us ds w => un us fun v us => asP v fun p53 => un us fun v us => asBox v fun q54 => un us fun v us => asBox v fun q55 => un us fun v us => asStr v fun s56 => nl us (dn ds (f35.J6 p53 q54 q55 s56 k w))
def f35.L4 (p27 : Option Addr) (q28 : Nat) (q29 : Nat) (s30 : ByteArray) (n31 : Int) (Kn1 : Option Addr → Nat → Nat → ByteArray → Int → World → Prop) (k : Value → World → Prop) (w : World) : Prop :=
  NN p27 (fun a32 => LD Value.string (Addr.add a32 4) (fun s33 w => brK (decide (n31 < ((s33.size : Nat) : Int))) (DR (fun w => NN p27 (fun a34 => LD Value.string (Addr.add a34 4) (fun s35 w => SIX s35 n31 (fun c36 => LD (Value.int .u8) (Addr.add ⟨q28, 0, none⟩ 1) (fun n37 w => brK (c36 != n37) (NN p27 (fun a38 => LD Value.string (Addr.add a38 4) (fun s39 w => RQ (0 ≤ (IntKind.wrap .i64 (n31 + 1) : Int) ∧ (IntKind.wrap .i64 (n31 + 1) : Int) ≤ ((s39.size : Nat) : Int)) (RQ (0 ≤ (n31 : Int) ∧ (n31 : Int) ≤ (((IntKind.wrap .i64 (n31 + 1) : Int).toNat : Nat) : Int)) (RQ (((s30.size + (s39.extract ((n31 : Int).toNat) ((IntKind.wrap .i64 (n31 + 1) : Int).toNat)).size : Nat) : Int) ≤ 9223372036854775807) (f35.J5 p27 q28 q29 (s30 ++ (s39.extract ((n31 : Int).toNat) ((IntKind.wrap .i64 (n31 + 1) : Int).toNat))) n31 Kn1 k w)))) w)) (f35.J5 p27 q28 q29 s30 n31 Kn1 k w)) w)) w)) w) (f35.J3 p27 q28 q29 s30 k w)) w)
def f35.L4lp (p27 : Option Addr) (q28 : Nat) (q29 : Nat) (s30 : ByteArray) (n31 : Int) (k : Value → World → Prop) (w : World) : Prop := ∀ D : Nat → Value, (Code.loop (codeAt f35.body [1, 1, 0, 1, 0, 1, 0, 1, 1, 0, 1, 0, 0])).wpIn (Wd none) 0 Tryz.prog (f35.Q2 k) (fr D 182 [181, 177, 175, 172, 171] [.pointer p27, .pointer (some ⟨q28, 0, none⟩), .pointer (some ⟨q29, 0, none⟩), .string s30, .int .i64 n31] []) w
def f35.L4p (k : Value → World → Prop) : Act → World → Prop := PJ 182 [181, 177, 175, 172, 171] fun us ds w => un us fun v us => asP v fun p27 => un us fun v us => asBox v fun q28 => un us fun v us => asBox v fun q29 => un us fun v us => asStr v fun s30 => un us fun v us => asI .i64 v fun n31 => nl us (dn ds (f35.L4lp p27 q28 q29 s30 n31 k w))
def f35.L4K (p27 : Option Addr) (q28 : Nat) (q29 : Nat) (I : ByteArray → Int → World → Prop) (μ : ByteArray → Int → World → Nat) (m : Nat) (p27' : Option Addr) (q28' : Nat) (q29' : Nat) (s30' : ByteArray) (n31' : Int) (w : World) : Prop := (p27' = p27 ∧ q28' = q28 ∧ q29' = q29) ∧ I s30' n31' w ∧ μ s30' n31' w < m
def f35.J8 (p87 : Option Addr) (q88 : Nat) (q89 : Nat) (q90 : Nat) (n91 : Int) (q92 : Nat) (k : Value → World → Prop) (w : World) : Prop :=
  DR (fun w => LD (Value.int .i64) (Addr.add ⟨q92, 0, none⟩ 0) (fun n93 w => LD Value.bool (Addr.add ⟨q92, 0, none⟩ 1) (fun b94 w => LD Value.bool (Addr.add ⟨q92, 0, none⟩ 2) (fun b95 w => NN p87 (fun a96 => LD slv (Addr.add a96 2) (fun l97 w => IX l97 n91 3 (fun a98 => LD (Value.int .i64) (Addr.add a98 0) (fun n99 w => LD Value.bool (Addr.add a98 1) (fun b100 w => LD Value.bool (Addr.add a98 2) (fun b101 w => brK (((n93 : Int) == n99) && ((b94 == b100) && ((b95 == b101) && true))) (LD Value.bool (Addr.add ⟨q90, 0, none⟩ 0) (fun b102 w => LD (Value.int .u8) (Addr.add ⟨q90, 0, none⟩ 1) (fun n103 w => LD Value.string (Addr.add ⟨q90, 0, none⟩ 2) (fun s104 w => ST (Addr.add ⟨q89, 0, none⟩ 0) (.bool b102) (fun w => ST (Addr.add ⟨q89, 0, none⟩ 1) (.int .u8 n103) (fun w => ST (Addr.add ⟨q89, 0, none⟩ 2) (.string s104) (fun w => LD Value.bool (Addr.add ⟨q89, 0, none⟩ 0) (fun b105 w => LD (Value.int .u8) (Addr.add ⟨q89, 0, none⟩ 1) (fun n106 w => LD Value.string (Addr.add ⟨q89, 0, none⟩ 2) (fun s107 w => k (.tuple #[.agg #[.bool b105, .int .u8 n106, .string s107], .int .i64 0]) w) w) w) w) w) w) w) w) w) w) (DR (fun w => NN p87 (fun a108 => LD slv (Addr.add a108 2) (fun l109 w => LD (Value.int .i64) (Addr.add ⟨q92, 0, none⟩ 0) (fun n110 w => LD Value.bool (Addr.add ⟨q92, 0, none⟩ 1) (fun b111 w => LD Value.bool (Addr.add ⟨q92, 0, none⟩ 2) (fun b112 w => IX l109 n91 3 (fun a113 => ST (Addr.add a113 0) (.int .i64 n110) (fun w => ST (Addr.add a113 1) (.bool b111) (fun w => ST (Addr.add a113 2) (.bool b112) (fun w => LD Value.bool (Addr.add ⟨q88, 0, none⟩ 0) (fun b114 w => LD (Value.int .u8) (Addr.add ⟨q88, 0, none⟩ 1) (fun n115 w => LD Value.string (Addr.add ⟨q88, 0, none⟩ 2) (fun s116 w => ST (Addr.add ⟨q89, 0, none⟩ 0) (.bool b114) (fun w => ST (Addr.add ⟨q89, 0, none⟩ 1) (.int .u8 n115) (fun w => ST (Addr.add ⟨q89, 0, none⟩ 2) (.string s116) (fun w => LD Value.bool (Addr.add ⟨q89, 0, none⟩ 0) (fun b117 w => LD (Value.int .u8) (Addr.add ⟨q89, 0, none⟩ 1) (fun n118 w => LD Value.string (Addr.add ⟨q89, 0, none⟩ 2) (fun s119 w => k (.tuple #[.agg #[.bool b117, .int .u8 n118, .string s119], .int .i64 0]) w) w) w) w) w) w) w) w) w) w) w) w) w)) w) w) w) w)) w)) w) w) w)) w)) w) w) w) w
def f35.J8p (k : Value → World → Prop) : Act → World → Prop := PJ 182 [181, 177, 175, 173, 170, 169] fun us ds w => un us fun v us => asP v fun p87 => un us fun v us => asBox v fun q88 => un us fun v us => asBox v fun q89 => un us fun v us => asBox v fun q90 => un us fun v us => asI .i64 v fun n91 => un us fun v us => asBox v fun q92 => nl us (dn ds (f35.J8 p87 q88 q89 q90 n91 q92 k w))
def f35.J9 (p169 : Option Addr) (q170 : Nat) (q171 : Nat) (q172 : Nat) (n173 : Int) (k : Value → World → Prop) (w : World) : Prop :=
  NN p169 (fun a174 => LD (Value.int .i64) (Addr.add a174 6) (fun n175 w => brK (n173 == n175) (LD Value.bool (Addr.add ⟨q172, 0, none⟩ 0) (fun b176 w => LD (Value.int .u8) (Addr.add ⟨q172, 0, none⟩ 1) (fun n177 w => LD Value.string (Addr.add ⟨q172, 0, none⟩ 2) (fun s178 w => ST (Addr.add ⟨q171, 0, none⟩ 0) (.bool b176) (fun w => ST (Addr.add ⟨q171, 0, none⟩ 1) (.int .u8 n177) (fun w => ST (Addr.add ⟨q171, 0, none⟩ 2) (.string s178) (fun w => LD Value.bool (Addr.add ⟨q171, 0, none⟩ 0) (fun b179 w => LD (Value.int .u8) (Addr.add ⟨q171, 0, none⟩ 1) (fun n180 w => LD Value.string (Addr.add ⟨q171, 0, none⟩ 2) (fun s181 w => k (.tuple #[.agg #[.bool b179, .int .u8 n180, .string s181], .int .i64 0]) w) w) w) w) w) w) w) w) w) w) (NN p169 (fun a182 => ST (Addr.add (Addr.add a182 6) 0) (.int .i64 n173) (fun w => LD Value.bool (Addr.add ⟨q170, 0, none⟩ 0) (fun b183 w => LD (Value.int .u8) (Addr.add ⟨q170, 0, none⟩ 1) (fun n184 w => LD Value.string (Addr.add ⟨q170, 0, none⟩ 2) (fun s185 w => ST (Addr.add ⟨q171, 0, none⟩ 0) (.bool b183) (fun w => ST (Addr.add ⟨q171, 0, none⟩ 1) (.int .u8 n184) (fun w => ST (Addr.add ⟨q171, 0, none⟩ 2) (.string s185) (fun w => LD Value.bool (Addr.add ⟨q171, 0, none⟩ 0) (fun b186 w => LD (Value.int .u8) (Addr.add ⟨q171, 0, none⟩ 1) (fun n187 w => LD Value.string (Addr.add ⟨q171, 0, none⟩ 2) (fun s188 w => k (.tuple #[.agg #[.bool b186, .int .u8 n187, .string s188], .int .i64 0]) w) w) w) w) w) w) w) w) w) w) w))) w)
def f35.J9p (k : Value → World → Prop) : Act → World → Prop := PJ 182 [181, 177, 175, 173, 168] fun us ds w => un us fun v us => asP v fun p169 => un us fun v us => asBox v fun q170 => un us fun v us => asBox v fun q171 => un us fun v us => asBox v fun q172 => un us fun v us => asI .i64 v fun n173 => nl us (dn ds (f35.J9 p169 q170 q171 q172 n173 k w))
def f35.Q4 (k : Value → World → Prop) : Exit → Act → World → Prop := (retQ Tryz.prog [.cell 6 24, .tmp 7] k)
def f35.J7 (p63 : Option Addr) (n64 : Int) (q65 : Nat) (q66 : Nat) (q67 : Nat) (n68 : Int) (b69 : Bool) (k : Value → World → Prop) (w : World) : Prop :=
  brK b69 (CALL Tryz.prog 17 #[.pointer p63, .int .i64 n64] (fun v70 w => ∃ n71 : Int, v70 = .int .i64 n71 ∧ brK (decide (n71 < 0)) (LD Value.bool (Addr.add ⟨q67, 0, none⟩ 0) (fun b72 w => LD (Value.int .u8) (Addr.add ⟨q67, 0, none⟩ 1) (fun n73 w => LD Value.string (Addr.add ⟨q67, 0, none⟩ 2) (fun s74 w => ST (Addr.add ⟨q66, 0, none⟩ 0) (.bool b72) (fun w => ST (Addr.add ⟨q66, 0, none⟩ 1) (.int .u8 n73) (fun w => ST (Addr.add ⟨q66, 0, none⟩ 2) (.string s74) (fun w => LD Value.bool (Addr.add ⟨q66, 0, none⟩ 0) (fun b75 w => LD (Value.int .u8) (Addr.add ⟨q66, 0, none⟩ 1) (fun n76 w => LD Value.string (Addr.add ⟨q66, 0, none⟩ 2) (fun s77 w => k (.tuple #[.agg #[.bool b75, .int .u8 n76, .string s77], .int .i64 441]) w) w) w) w) w) w) w) w) w) w) (NN p63 (fun a78 => LD slv (Addr.add a78 2) (fun l79 w => IX l79 n71 3 (fun a80 => LD (Value.int .i64) (Addr.add a80 0) (fun n81 w => LD Value.bool (Addr.add a80 1) (fun b82 w => LD Value.bool (Addr.add a80 2) (fun b83 w => AL (.cells #[.int .i64 0, .bool false, .bool false] 39) (fun q84 w => ST (Addr.add ⟨q84, 0, none⟩ 0) (.int .i64 n81) (fun w => ST (Addr.add ⟨q84, 0, none⟩ 1) (.bool b82) (fun w => ST (Addr.add ⟨q84, 0, none⟩ 2) (.bool b83) (fun w => LD (Value.int .u8) (Addr.add ⟨q65, 0, none⟩ 1) (fun n85 w => brK (n85 == 111) (LD Value.bool (Addr.add ⟨q65, 0, none⟩ 0) (fun b86 w => ST (Addr.add (Addr.add ⟨q84, 0, none⟩ 1) 0) (.bool b86) (fun w => f35.J8 p63 q65 q66 q67 n71 q84 k w) w) w) (LD Value.bool (Addr.add ⟨q65, 0, none⟩ 0) (fun b120 w => ST (Addr.add (Addr.add ⟨q84, 0, none⟩ 2) 0) (.bool b120) (fun w => f35.J8 p63 q65 q66 q67 n71 q84 k w) w) w)) w) w) w) w) w) w) w) w)) w))) w) (brK (n68 == 107) (LD Value.bool (Addr.add ⟨q65, 0, none⟩ 0) (fun b121 w => brK b121 (LD Value.string (Addr.add ⟨q65, 0, none⟩ 2) (fun s122 w => CALL Tryz.prog 58 #[.string s122] (fun v123 w => ∃ b124 : Bool, v123 = .bool b124 ∧ brK (!b124) (LD Value.bool (Addr.add ⟨q67, 0, none⟩ 0) (fun b125 w => LD (Value.int .u8) (Addr.add ⟨q67, 0, none⟩ 1) (fun n126 w => LD Value.string (Addr.add ⟨q67, 0, none⟩ 2) (fun s127 w => ST (Addr.add ⟨q66, 0, none⟩ 0) (.bool b125) (fun w => ST (Addr.add ⟨q66, 0, none⟩ 1) (.int .u8 n126) (fun w => ST (Addr.add ⟨q66, 0, none⟩ 2) (.string s127) (fun w => LD Value.bool (Addr.add ⟨q66, 0, none⟩ 0) (fun b128 w => LD (Value.int .u8) (Addr.add ⟨q66, 0, none⟩ 1) (fun n129 w => LD Value.string (Addr.add ⟨q66, 0, none⟩ 2) (fun s130 w => k (.tuple #[.agg #[.bool b128, .int .u8 n129, .string s130], .int .i64 475]) w) w) w) w) w) w) w) w) w) w) (NN p63 (fun a131 => LD Value.string (Addr.add a131 5) (fun s132 w => brK (!decide ((s132 : ByteArray) = (⟨#[]⟩ : ByteArray))) (LD Value.bool (Addr.add ⟨q67, 0, none⟩ 0) (fun b133 w => LD (Value.int .u8) (Addr.add ⟨q67, 0, none⟩ 1) (fun n134 w => LD Value.string (Addr.add ⟨q67, 0, none⟩ 2) (fun s135 w => ST (Addr.add ⟨q66, 0, none⟩ 0) (.bool b133) (fun w => ST (Addr.add ⟨q66, 0, none⟩ 1) (.int .u8 n134) (fun w => ST (Addr.add ⟨q66, 0, none⟩ 2) (.string s135) (fun w => LD Value.bool (Addr.add ⟨q66, 0, none⟩ 0) (fun b136 w => LD (Value.int .u8) (Addr.add ⟨q66, 0, none⟩ 1) (fun n137 w => LD Value.string (Addr.add ⟨q66, 0, none⟩ 2) (fun s138 w => k (.tuple #[.agg #[.bool b136, .int .u8 n137, .string s138], .int .i64 475]) w) w) w) w) w) w) w) w) w) w) (LD Value.string (Addr.add ⟨q65, 0, none⟩ 2) (fun s139 w => NN p63 (fun a140 => ST (Addr.add (Addr.add a140 5) 0) (.string s139) (fun w => LD Value.bool (Addr.add ⟨q65, 0, none⟩ 0) (fun b141 w => LD (Value.int .u8) (Addr.add ⟨q65, 0, none⟩ 1) (fun n142 w => LD Value.string (Addr.add ⟨q65, 0, none⟩ 2) (fun s143 w => ST (Addr.add ⟨q66, 0, none⟩ 0) (.bool b141) (fun w => ST (Addr.add ⟨q66, 0, none⟩ 1) (.int .u8 n142) (fun w => ST (Addr.add ⟨q66, 0, none⟩ 2) (.string s143) (fun w => LD Value.bool (Addr.add ⟨q66, 0, none⟩ 0) (fun b144 w => LD (Value.int .u8) (Addr.add ⟨q66, 0, none⟩ 1) (fun n145 w => LD Value.string (Addr.add ⟨q66, 0, none⟩ 2) (fun s146 w => k (.tuple #[.agg #[.bool b144, .int .u8 n145, .string s146], .int .i64 0]) w) w) w) w) w) w) w) w) w) w) w)) w)) w))) w) w) (NN p63 (fun a147 => LD Value.string (Addr.add a147 5) (fun s148 w => brK (decide ((s148 : ByteArray) = (⟨#[]⟩ : ByteArray))) (LD Value.bool (Addr.add ⟨q67, 0, none⟩ 0) (fun b149 w => LD (Value.int .u8) (Addr.add ⟨q67, 0, none⟩ 1) (fun n150 w => LD Value.string (Addr.add ⟨q67, 0, none⟩ 2) (fun s151 w => ST (Addr.add ⟨q66, 0, none⟩ 0) (.bool b149) (fun w => ST (Addr.add ⟨q66, 0, none⟩ 1) (.int .u8 n150) (fun w => ST (Addr.add ⟨q66, 0, none⟩ 2) (.string s151) (fun w => LD Value.bool (Addr.add ⟨q66, 0, none⟩ 0) (fun b152 w => LD (Value.int .u8) (Addr.add ⟨q66, 0, none⟩ 1) (fun n153 w => LD Value.string (Addr.add ⟨q66, 0, none⟩ 2) (fun s154 w => k (.tuple #[.agg #[.bool b152, .int .u8 n153, .string s154], .int .i64 0]) w) w) w) w) w) w) w) w) w) w) (NN p63 (fun a155 => ST (Addr.add (Addr.add a155 5) 0) (.string (⟨#[]⟩ : ByteArray)) (fun w => ST (Addr.add ⟨q66, 0, none⟩ 0) (.bool false) (fun w => ST (Addr.add ⟨q66, 0, none⟩ 1) (.int .u8 107) (fun w => ST (Addr.add ⟨q66, 0, none⟩ 2) (.string (⟨#[42]⟩ : ByteArray)) (fun w => LD Value.bool (Addr.add ⟨q66, 0, none⟩ 0) (fun b156 w => LD (Value.int .u8) (Addr.add ⟨q66, 0, none⟩ 1) (fun n157 w => LD Value.string (Addr.add ⟨q66, 0, none⟩ 2) (fun s158 w => k (.tuple #[.agg #[.bool b156, .int .u8 n157, .string s158], .int .i64 0]) w) w) w) w) w) w) w) w))) w))) w) (brK (n68 == 108) (LD Value.bool (Addr.add ⟨q65, 0, none⟩ 0) (fun b159 w => brK b159 (LD Value.string (Addr.add ⟨q65, 0, none⟩ 2) (fun s160 w => CALL Tryz.prog 59 #[.string s160] (fun v161 w => ∃ n162 : Int, v161 = .int .i64 n162 ∧ brK (n162 == 0) (LD Value.bool (Addr.add ⟨q67, 0, none⟩ 0) (fun b163 w => LD (Value.int .u8) (Addr.add ⟨q67, 0, none⟩ 1) (fun n164 w => LD Value.string (Addr.add ⟨q67, 0, none⟩ 2) (fun s165 w => ST (Addr.add ⟨q66, 0, none⟩ 0) (.bool b163) (fun w => ST (Addr.add ⟨q66, 0, none⟩ 1) (.int .u8 n164) (fun w => ST (Addr.add ⟨q66, 0, none⟩ 2) (.string s165) (fun w => LD Value.bool (Addr.add ⟨q66, 0, none⟩ 0) (fun b166 w => LD (Value.int .u8) (Addr.add ⟨q66, 0, none⟩ 1) (fun n167 w => LD Value.string (Addr.add ⟨q66, 0, none⟩ 2) (fun s168 w => k (.tuple #[.agg #[.bool b166, .int .u8 n167, .string s168], .int .i64 0]) w) w) w) w) w) w) w) w) w) w) (f35.J9 p63 q65 q66 q67 n162 k w)) w) w) (ST (Addr.add (Addr.add ⟨q65, 0, none⟩ 2) 0) (.string (⟨#[]⟩ : ByteArray)) (fun w => f35.J9 p63 q65 q66 q67 0 k w) w)) w) (brK (n68 == 98) (LD Value.bool (Addr.add ⟨q65, 0, none⟩ 0) (fun b189 w => LD (Value.int .u8) (Addr.add ⟨q65, 0, none⟩ 1) (fun n190 w => LD Value.string (Addr.add ⟨q65, 0, none⟩ 2) (fun s191 w => CALL Tryz.prog 60 #[.pointer p63, .agg #[.bool b189, .int .u8 n190, .string s191]] (fun v192 w => ∃ b193 : Bool, ∃ n194 : Int, ∃ s195 : ByteArray, ∃ n196 : Int, v192 = .tuple #[.agg #[.bool b193, .int .u8 n194, .string s195], .int .i64 n196] ∧ ST (Addr.add ⟨q66, 0, none⟩ 0) (.bool b193) (fun w => ST (Addr.add ⟨q66, 0, none⟩ 1) (.int .u8 n194) (fun w => ST (Addr.add ⟨q66, 0, none⟩ 2) (.string s195) (fun w => LD Value.bool (Addr.add ⟨q66, 0, none⟩ 0) (fun b197 w => LD (Value.int .u8) (Addr.add ⟨q66, 0, none⟩ 1) (fun n198 w => LD Value.string (Addr.add ⟨q66, 0, none⟩ 2) (fun s199 w => k (.tuple #[.agg #[.bool b197, .int .u8 n198, .string s199], .int .i64 n196]) w) w) w) w) w) w) w) w) w) w) w) (f35.J1 q66 q67 k w))))
def f35.J7p (k : Value → World → Prop) : Act → World → Prop := PJ 182 [181, 179, 177, 175, 173, 165, 105] fun us ds w => un us fun v us => asP v fun p63 => un us fun v us => asI .i64 v fun n64 => un us fun v us => asBox v fun q65 => un us fun v us => asBox v fun q66 => un us fun v us => asBox v fun q67 => un us fun v us => asI .u8 v fun n68 => un us fun v us => asB v fun b69 => nl us (dn ds (f35.J7 p63 n64 q65 q66 q67 n68 b69 k w))
def f35.J2 (p10 : Option Addr) (n11 : Int) (q12 : Nat) (q13 : Nat) (q14 : Nat) (n15 : Int) (b16 : Bool) (k : Value → World → Prop) (w : World) : Prop :=
  brK b16 (DRC (fun C w => STL C (Value.int .u8) (Addr.add ⟨q12, 0, none⟩ 1) (fun n17 => STL C Value.bool (Addr.add ⟨q12, 0, none⟩ 0) (fun b18 => CALL Tryz.prog 24 #[.pointer p10, .int .u8 n17] (fun v19 w => ∃ b20 : Bool, v19 = .bool b20 ∧ C w ∧ brK (b20 == b18) (LD Value.bool (Addr.add ⟨q14, 0, none⟩ 0) (fun b21 w => LD (Value.int .u8) (Addr.add ⟨q14, 0, none⟩ 1) (fun n22 w => LD Value.string (Addr.add ⟨q14, 0, none⟩ 2) (fun s23 w => ST (Addr.add ⟨q13, 0, none⟩ 0) (.bool b21) (fun w => ST (Addr.add ⟨q13, 0, none⟩ 1) (.int .u8 n22) (fun w => ST (Addr.add ⟨q13, 0, none⟩ 2) (.string s23) (fun w => LD Value.bool (Addr.add ⟨q13, 0, none⟩ 0) (fun b24 w => LD (Value.int .u8) (Addr.add ⟨q13, 0, none⟩ 1) (fun n25 w => LD Value.string (Addr.add ⟨q13, 0, none⟩ 2) (fun s26 w => k (.tuple #[.agg #[.bool b24, .int .u8 n25, .string s26], .int .i64 0]) w) w) w) w) w) w) w) w) w) w) (f35.L4lp p10 q12 q13 (⟨#[]⟩ : ByteArray) 0 k w)) w))) w) (brK (n15 == 111) (f35.J7 p10 n11 q12 q13 q14 n15 (n15 == 111) k w) (f35.J7 p10 n11 q12 q13 q14 n15 (n15 == 118) k w))
def f35.J2p (k : Value → World → Prop) : Act → World → Prop := PJ 182 [181, 179, 177, 175, 173, 165, 164] fun us ds w => un us fun v us => asP v fun p10 => un us fun v us => asI .i64 v fun n11 => un us fun v us => asBox v fun q12 => un us fun v us => asBox v fun q13 => un us fun v us => asBox v fun q14 => un us fun v us => asI .u8 v fun n15 => un us fun v us => asB v fun b16 => nl us (dn ds (f35.J2 p10 n11 q12 q13 q14 n15 b16 k w))
theorem f35.J5_den (D : Nat → Value) (p40 : Option Addr) (q41 : Nat) (q42 : Nat) (s43 : ByteArray) (n44 : Int) (Kn1 : Option Addr → Nat → Nat → ByteArray → Int → World → Prop) (k : Value → World → Prop) (w : World) : pc Tryz.prog none .none (codeAt f35.body [1, 1, 0, 1, 0, 1, 0, 1, 1, 0, 1, 0, 0, 1, 1]) (f35.Q3 Kn1 k) D 182 [181, 177, 175, 172, 171] [.pointer p40, .pointer (some ⟨q41, 0, none⟩), .pointer (some ⟨q42, 0, none⟩), .string s43, .int .i64 n44] [] w = f35.J5 p40 q41 q42 s43 n44 Kn1 k w := by kernel_rfl
theorem f35.J5_okc {Kn1 : Option Addr → Nat → Nat → ByteArray → Int → World → Prop} {k : Value → World → Prop} : okC Tryz.prog none .none (codeAt f35.body [1, 1, 0, 1, 0, 1, 0, 1, 1, 0, 1, 0, 0, 1, 1]) (f35.Q3 Kn1 k) :=
  Eq.mpr (by kernel_rfl : okC Tryz.prog none .none (codeAt f35.body [1, 1, 0, 1, 0, 1, 0, 1, 1, 0, 1, 0, 0, 1, 1]) (f35.Q3 Kn1 k) = (True)) (trivial)
theorem f35.J5_ok {Kn1 : Option Addr → Nat → Nat → ByteArray → Int → World → Prop} {k : Value → World → Prop} : OKJ Tryz.prog none (f35.J5p Kn1 k) (codeAt f35.body [1, 1, 0, 1, 0, 1, 0, 1, 1, 0, 1, 0, 0, 1, 1]) (f35.Q3 Kn1 k) := by
  intro a w h
  obtain ⟨D, us, ds, rfl, h0⟩ := PJ_out h
  obtain ⟨v, us, rfl, h1⟩ := un_out h0
  obtain ⟨p40, rfl, h2⟩ := asP_out h1
  obtain ⟨v, us, rfl, h3⟩ := un_out h2
  obtain ⟨q41, rfl, h4⟩ := asBox_out h3
  obtain ⟨v, us, rfl, h5⟩ := un_out h4
  obtain ⟨q42, rfl, h6⟩ := asBox_out h5
  obtain ⟨v, us, rfl, h7⟩ := un_out h6
  obtain ⟨s43, rfl, h8⟩ := asStr_out h7
  obtain ⟨v, us, rfl, h9⟩ := un_out h8
  obtain ⟨n44, rfl, h10⟩ := asI_out h9
  obtain ⟨rfl, h11⟩ := nl_out h10
  obtain ⟨rfl, h12⟩ := dn_out h11
  rw [← f35.J5_den D p40 q41 q42 s43 n44 Kn1 k w] at h12
  exact pc_wp Tryz.mixed f35.J5_okc h12
theorem f35.J6_den (D : Nat → Value) (p53 : Option Addr) (q54 : Nat) (q55 : Nat) (s56 : ByteArray) (k : Value → World → Prop) (w : World) : pc Tryz.prog none .none (codeAt f35.body [1, 1, 0, 1, 0, 1, 0, 1, 1, 1, 1]) (f35.Q1 k) D 182 [181, 177, 175, 172] [.pointer p53, .pointer (some ⟨q54, 0, none⟩), .pointer (some ⟨q55, 0, none⟩), .string s56] [] w = f35.J6 p53 q54 q55 s56 k w := by kernel_rfl
theorem f35.J6_okc {k : Value → World → Prop} : okC Tryz.prog none .none (codeAt f35.body [1, 1, 0, 1, 0, 1, 0, 1, 1, 1, 1]) (f35.Q1 k) :=
  Eq.mpr (by kernel_rfl : okC Tryz.prog none .none (codeAt f35.body [1, 1, 0, 1, 0, 1, 0, 1, 1, 1, 1]) (f35.Q1 k) = (True)) (trivial)
theorem f35.J6_ok {k : Value → World → Prop} : OKJ Tryz.prog none (f35.J6p k) (codeAt f35.body [1, 1, 0, 1, 0, 1, 0, 1, 1, 1, 1]) (f35.Q1 k) := by
  intro a w h
  obtain ⟨D, us, ds, rfl, h0⟩ := PJ_out h
  obtain ⟨v, us, rfl, h1⟩ := un_out h0
  obtain ⟨p53, rfl, h2⟩ := asP_out h1
  obtain ⟨v, us, rfl, h3⟩ := un_out h2
  obtain ⟨q54, rfl, h4⟩ := asBox_out h3
  obtain ⟨v, us, rfl, h5⟩ := un_out h4
  obtain ⟨q55, rfl, h6⟩ := asBox_out h5
  obtain ⟨v, us, rfl, h7⟩ := un_out h6
  obtain ⟨s56, rfl, h8⟩ := asStr_out h7
  obtain ⟨rfl, h9⟩ := nl_out h8
  obtain ⟨rfl, h10⟩ := dn_out h9
  rw [← f35.J6_den D p53 q54 q55 s56 k w] at h10
  exact pc_wp Tryz.mixed f35.J6_okc h10
theorem f35.J3_den (D : Nat → Value) (p45 : Option Addr) (q46 : Nat) (q47 : Nat) (s48 : ByteArray) (k : Value → World → Prop) (w : World) : pc Tryz.prog none (.seq (some (f35.J6p k)) .none .none) (codeAt f35.body [1, 1, 0, 1, 0, 1, 0, 1, 1, 1]) (f35.Q1 k) D 182 [181, 177, 175, 172] [.pointer p45, .pointer (some ⟨q46, 0, none⟩), .pointer (some ⟨q47, 0, none⟩), .string s48] [] w = f35.J3 p45 q46 q47 s48 k w := by kernel_rfl
theorem f35.J3_okc {k : Value → World → Prop} : okC Tryz.prog none (.seq (some (f35.J6p k)) .none .none) (codeAt f35.body [1, 1, 0, 1, 0, 1, 0, 1, 1, 1]) (f35.Q1 k) :=
  Eq.mpr (by kernel_rfl : okC Tryz.prog none (.seq (some (f35.J6p k)) .none .none) (codeAt f35.body [1, 1, 0, 1, 0, 1, 0, 1, 1, 1]) (f35.Q1 k) = (((True) ∧ OKJ Tryz.prog none (f35.J6p k) (codeAt f35.body [1, 1, 0, 1, 0, 1, 0, 1, 1, 1, 1]) (f35.Q1 k)))) (⟨trivial, f35.J6_ok⟩)
theorem f35.J3_ok {k : Value → World → Prop} : OKJ Tryz.prog none (f35.J3p k) (codeAt f35.body [1, 1, 0, 1, 0, 1, 0, 1, 1, 1]) (f35.Q1 k) := by
  intro a w h
  obtain ⟨D, us, ds, rfl, h0⟩ := PJ_out h
  obtain ⟨v, us, rfl, h1⟩ := un_out h0
  obtain ⟨p45, rfl, h2⟩ := asP_out h1
  obtain ⟨v, us, rfl, h3⟩ := un_out h2
  obtain ⟨q46, rfl, h4⟩ := asBox_out h3
  obtain ⟨v, us, rfl, h5⟩ := un_out h4
  obtain ⟨q47, rfl, h6⟩ := asBox_out h5
  obtain ⟨v, us, rfl, h7⟩ := un_out h6
  obtain ⟨s48, rfl, h8⟩ := asStr_out h7
  obtain ⟨rfl, h9⟩ := nl_out h8
  obtain ⟨rfl, h10⟩ := dn_out h9
  rw [← f35.J3_den D p45 q46 q47 s48 k w] at h10
  exact pc_wp Tryz.mixed f35.J3_okc h10
theorem f35.L4_next {p27 : Option Addr} {q28 : Nat} {q29 : Nat} {I : ByteArray → Int → World → Prop} {μ : ByteArray → Int → World → Nat} {m : Nat} {s30 : ByteArray} {n31 : Int} {w : World} (hI : I s30 n31 w) (hlt : μ s30 n31 w < m) : f35.L4K p27 q28 q29 I μ m p27 q28 q29 s30 n31 w := ⟨⟨rfl, rfl, rfl⟩, hI, hlt⟩
theorem f35.L4_den (D : Nat → Value) (p27 : Option Addr) (q28 : Nat) (q29 : Nat) (s30 : ByteArray) (n31 : Int) (Kn1 : Option Addr → Nat → Nat → ByteArray → Int → World → Prop) (k : Value → World → Prop) (w : World) : pc Tryz.prog none (.seq none .none (.seq (some (f35.J5p Kn1 k)) .none .none)) (codeAt f35.body [1, 1, 0, 1, 0, 1, 0, 1, 1, 0, 1, 0, 0]) (Exit.then (f35.L4k Kn1) (f35.Q2 k)) D 182 [181, 177, 175, 172, 171] [.pointer p27, .pointer (some ⟨q28, 0, none⟩), .pointer (some ⟨q29, 0, none⟩), .string s30, .int .i64 n31] [] w = f35.L4 p27 q28 q29 s30 n31 Kn1 k w := by kernel_rfl
theorem f35.L4_okc {Kn1 : Option Addr → Nat → Nat → ByteArray → Int → World → Prop} {k : Value → World → Prop} : okC Tryz.prog none (.seq none .none (.seq (some (f35.J5p Kn1 k)) .none .none)) (codeAt f35.body [1, 1, 0, 1, 0, 1, 0, 1, 1, 0, 1, 0, 0]) (Exit.then (f35.L4k Kn1) (f35.Q2 k)) :=
  Eq.mpr (by kernel_rfl : okC Tryz.prog none (.seq none .none (.seq (some (f35.J5p Kn1 k)) .none .none)) (codeAt f35.body [1, 1, 0, 1, 0, 1, 0, 1, 1, 0, 1, 0, 0]) (Exit.then (f35.L4k Kn1) (f35.Q2 k)) = (((True) ∧ (((True) ∧ OKJ Tryz.prog none (f35.J5p Kn1 k) (codeAt f35.body [1, 1, 0, 1, 0, 1, 0, 1, 1, 0, 1, 0, 0, 1, 1]) (f35.Q3 Kn1 k)))))) (⟨trivial, ⟨trivial, f35.J5_ok⟩⟩)
theorem f35.L4_ok {k : Value → World → Prop} : OKJ Tryz.prog none (f35.L4p k) (codeAt f35.body [1, 1, 0, 1, 0, 1, 0, 1, 1, 0, 1, 0]) (f35.Q2 k) := by
  intro a w h
  obtain ⟨D, us, ds, rfl, h0⟩ := PJ_out h
  obtain ⟨v, us, rfl, h1⟩ := un_out h0
  obtain ⟨p27, rfl, h2⟩ := asP_out h1
  obtain ⟨v, us, rfl, h3⟩ := un_out h2
  obtain ⟨q28, rfl, h4⟩ := asBox_out h3
  obtain ⟨v, us, rfl, h5⟩ := un_out h4
  obtain ⟨q29, rfl, h6⟩ := asBox_out h5
  obtain ⟨v, us, rfl, h7⟩ := un_out h6
  obtain ⟨s30, rfl, h8⟩ := asStr_out h7
  obtain ⟨v, us, rfl, h9⟩ := un_out h8
  obtain ⟨n31, rfl, h10⟩ := asI_out h9
  obtain ⟨rfl, h11⟩ := nl_out h10
  obtain ⟨rfl, h12⟩ := dn_out h11
  rw [show (codeAt f35.body [1, 1, 0, 1, 0, 1, 0, 1, 1, 0, 1, 0]) = Code.loop (codeAt f35.body [1, 1, 0, 1, 0, 1, 0, 1, 1, 0, 1, 0, 0]) by kernel_rfl]
  exact h12 D
theorem f35.L4_rule {p27 : Option Addr} {q28 : Nat} {q29 : Nat} {k : Value → World → Prop} (I : ByteArray → Int → World → Prop) (μ : ByteArray → Int → World → Nat) {s30 : ByteArray} {n31 : Int} {w : World} (h0 : I s30 n31 w)
    (hr : ∀ (s30 : ByteArray) (n31 : Int) (w : World), I s30 n31 w → f35.L4 p27 q28 q29 s30 n31 (f35.L4K p27 q28 q29 I μ (μ s30 n31 w)) k w) : f35.L4lp p27 q28 q29 s30 n31 k w := by
  intro D0
  refine loop_ind (P := Tryz.prog) (fun m a w => ∃ s30 : ByteArray, ∃ n31 : Int, ∃ D : Nat → Value, a = fr D 182 [181, 177, 175, 172, 171] [.pointer p27, .pointer (some ⟨q28, 0, none⟩), .pointer (some ⟨q29, 0, none⟩), .string s30, .int .i64 n31] [] ∧ I s30 n31 w ∧ μ s30 n31 w = m) ?_ (μ s30 n31 w) ⟨_, _, D0, rfl, h0, rfl⟩
  rintro m a w ⟨s30, n31, D, rfl, hI, rfl⟩
  have h := hr s30 n31 w hI
  rw [← f35.L4_den D p27 q28 q29 s30 n31 (f35.L4K p27 q28 q29 I μ (μ s30 n31 w)) k w] at h
  refine then_mono (pc_wp Tryz.mixed f35.L4_okc h) ?_
  clear h
  intro a w h
  obtain ⟨D, us, ds, rfl, h0⟩ := PJ_out h
  obtain ⟨v, us, rfl, h1⟩ := un_out h0
  obtain ⟨p27', rfl, h2⟩ := asP_out h1
  obtain ⟨v, us, rfl, h3⟩ := un_out h2
  obtain ⟨q28', rfl, h4⟩ := asBox_out h3
  obtain ⟨v, us, rfl, h5⟩ := un_out h4
  obtain ⟨q29', rfl, h6⟩ := asBox_out h5
  obtain ⟨v, us, rfl, h7⟩ := un_out h6
  obtain ⟨s30', rfl, h8⟩ := asStr_out h7
  obtain ⟨v, us, rfl, h9⟩ := un_out h8
  obtain ⟨n31', rfl, h10⟩ := asI_out h9
  obtain ⟨rfl, h11⟩ := nl_out h10
  obtain ⟨rfl, h12⟩ := dn_out h11
  obtain ⟨⟨rfl, rfl, rfl⟩, hI, hlt⟩ := h12
  exact ⟨_, hlt, _, _, D, rfl, hI, rfl⟩
theorem f35.J8_den (D : Nat → Value) (p87 : Option Addr) (q88 : Nat) (q89 : Nat) (q90 : Nat) (n91 : Int) (q92 : Nat) (k : Value → World → Prop) (w : World) : pc Tryz.prog none .none (codeAt f35.body [1, 1, 0, 1, 0, 1, 1, 1, 0, 1, 1, 1, 1]) (f35.Q1 k) D 182 [181, 177, 175, 173, 170, 169] [.pointer p87, .pointer (some ⟨q88, 0, none⟩), .pointer (some ⟨q89, 0, none⟩), .pointer (some ⟨q90, 0, none⟩), .int .i64 n91, .pointer (some ⟨q92, 0, none⟩)] [] w = f35.J8 p87 q88 q89 q90 n91 q92 k w := by kernel_rfl
theorem f35.J8_okc {k : Value → World → Prop} : okC Tryz.prog none .none (codeAt f35.body [1, 1, 0, 1, 0, 1, 1, 1, 0, 1, 1, 1, 1]) (f35.Q1 k) :=
  Eq.mpr (by kernel_rfl : okC Tryz.prog none .none (codeAt f35.body [1, 1, 0, 1, 0, 1, 1, 1, 0, 1, 1, 1, 1]) (f35.Q1 k) = (True)) (trivial)
theorem f35.J8_ok {k : Value → World → Prop} : OKJ Tryz.prog none (f35.J8p k) (codeAt f35.body [1, 1, 0, 1, 0, 1, 1, 1, 0, 1, 1, 1, 1]) (f35.Q1 k) := by
  intro a w h
  obtain ⟨D, us, ds, rfl, h0⟩ := PJ_out h
  obtain ⟨v, us, rfl, h1⟩ := un_out h0
  obtain ⟨p87, rfl, h2⟩ := asP_out h1
  obtain ⟨v, us, rfl, h3⟩ := un_out h2
  obtain ⟨q88, rfl, h4⟩ := asBox_out h3
  obtain ⟨v, us, rfl, h5⟩ := un_out h4
  obtain ⟨q89, rfl, h6⟩ := asBox_out h5
  obtain ⟨v, us, rfl, h7⟩ := un_out h6
  obtain ⟨q90, rfl, h8⟩ := asBox_out h7
  obtain ⟨v, us, rfl, h9⟩ := un_out h8
  obtain ⟨n91, rfl, h10⟩ := asI_out h9
  obtain ⟨v, us, rfl, h11⟩ := un_out h10
  obtain ⟨q92, rfl, h12⟩ := asBox_out h11
  obtain ⟨rfl, h13⟩ := nl_out h12
  obtain ⟨rfl, h14⟩ := dn_out h13
  rw [← f35.J8_den D p87 q88 q89 q90 n91 q92 k w] at h14
  exact pc_wp Tryz.mixed f35.J8_okc h14
theorem f35.J9_den (D : Nat → Value) (p169 : Option Addr) (q170 : Nat) (q171 : Nat) (q172 : Nat) (n173 : Int) (k : Value → World → Prop) (w : World) : pc Tryz.prog none .none (codeAt f35.body [1, 1, 0, 1, 0, 1, 1, 1, 1, 1, 1, 1, 0, 1, 1]) (f35.Q1 k) D 182 [181, 177, 175, 173, 168] [.pointer p169, .pointer (some ⟨q170, 0, none⟩), .pointer (some ⟨q171, 0, none⟩), .pointer (some ⟨q172, 0, none⟩), .int .i64 n173] [] w = f35.J9 p169 q170 q171 q172 n173 k w := by kernel_rfl
theorem f35.J9_okc {k : Value → World → Prop} : okC Tryz.prog none .none (codeAt f35.body [1, 1, 0, 1, 0, 1, 1, 1, 1, 1, 1, 1, 0, 1, 1]) (f35.Q1 k) :=
  Eq.mpr (by kernel_rfl : okC Tryz.prog none .none (codeAt f35.body [1, 1, 0, 1, 0, 1, 1, 1, 1, 1, 1, 1, 0, 1, 1]) (f35.Q1 k) = (True)) (trivial)
theorem f35.J9_ok {k : Value → World → Prop} : OKJ Tryz.prog none (f35.J9p k) (codeAt f35.body [1, 1, 0, 1, 0, 1, 1, 1, 1, 1, 1, 1, 0, 1, 1]) (f35.Q1 k) := by
  intro a w h
  obtain ⟨D, us, ds, rfl, h0⟩ := PJ_out h
  obtain ⟨v, us, rfl, h1⟩ := un_out h0
  obtain ⟨p169, rfl, h2⟩ := asP_out h1
  obtain ⟨v, us, rfl, h3⟩ := un_out h2
  obtain ⟨q170, rfl, h4⟩ := asBox_out h3
  obtain ⟨v, us, rfl, h5⟩ := un_out h4
  obtain ⟨q171, rfl, h6⟩ := asBox_out h5
  obtain ⟨v, us, rfl, h7⟩ := un_out h6
  obtain ⟨q172, rfl, h8⟩ := asBox_out h7
  obtain ⟨v, us, rfl, h9⟩ := un_out h8
  obtain ⟨n173, rfl, h10⟩ := asI_out h9
  obtain ⟨rfl, h11⟩ := nl_out h10
  obtain ⟨rfl, h12⟩ := dn_out h11
  rw [← f35.J9_den D p169 q170 q171 q172 n173 k w] at h12
  exact pc_wp Tryz.mixed f35.J9_okc h12
theorem f35.J1_den (D : Nat → Value) (q200 : Nat) (q201 : Nat) (k : Value → World → Prop) (w : World) : pc Tryz.prog none .none (codeAt f35.body [1, 1, 1]) (f35.Q4 k) D 182 [175, 173] [.pointer (some ⟨q200, 0, none⟩), .pointer (some ⟨q201, 0, none⟩)] [] w = f35.J1 q200 q201 k w := by kernel_rfl
theorem f35.J1_okc {k : Value → World → Prop} : okC Tryz.prog none .none (codeAt f35.body [1, 1, 1]) (f35.Q4 k) :=
  Eq.mpr (by kernel_rfl : okC Tryz.prog none .none (codeAt f35.body [1, 1, 1]) (f35.Q4 k) = (True)) (trivial)
theorem f35.J1_ok {k : Value → World → Prop} : OKJ Tryz.prog none (f35.J1p k) (codeAt f35.body [1, 1, 1]) (f35.Q4 k) := by
  intro a w h
  obtain ⟨D, us, ds, rfl, h0⟩ := PJ_out h
  obtain ⟨v, us, rfl, h1⟩ := un_out h0
  obtain ⟨q200, rfl, h2⟩ := asBox_out h1
  obtain ⟨v, us, rfl, h3⟩ := un_out h2
  obtain ⟨q201, rfl, h4⟩ := asBox_out h3
  obtain ⟨rfl, h5⟩ := nl_out h4
  obtain ⟨rfl, h6⟩ := dn_out h5
  rw [← f35.J1_den D q200 q201 k w] at h6
  exact pc_wp Tryz.mixed f35.J1_okc h6
theorem f35.J7_den (D : Nat → Value) (p63 : Option Addr) (n64 : Int) (q65 : Nat) (q66 : Nat) (q67 : Nat) (n68 : Int) (b69 : Bool) (k : Value → World → Prop) (w : World) : pc Tryz.prog none (.cond (.seq none .none (.seq none .none (.seq none .none (.seq (some (f35.J8p k)) .none .none)))) (.seq none .none (.cond .none (.seq none .none (.cond (.seq none .none (.seq (some (f35.J9p k)) .none .none)) .none))))) (codeAt f35.body [1, 1, 0, 1, 0, 1, 1, 1]) (f35.Q1 k) D 182 [181, 179, 177, 175, 173, 165, 105] [.pointer p63, .int .i64 n64, .pointer (some ⟨q65, 0, none⟩), .pointer (some ⟨q66, 0, none⟩), .pointer (some ⟨q67, 0, none⟩), .int .u8 n68, .bool b69] [] w = f35.J7 p63 n64 q65 q66 q67 n68 b69 k w := by kernel_rfl
theorem f35.J7_okc {k : Value → World → Prop} : okC Tryz.prog none (.cond (.seq none .none (.seq none .none (.seq none .none (.seq (some (f35.J8p k)) .none .none)))) (.seq none .none (.cond .none (.seq none .none (.cond (.seq none .none (.seq (some (f35.J9p k)) .none .none)) .none))))) (codeAt f35.body [1, 1, 0, 1, 0, 1, 1, 1]) (f35.Q1 k) :=
  Eq.mpr (by kernel_rfl : okC Tryz.prog none (.cond (.seq none .none (.seq none .none (.seq none .none (.seq (some (f35.J8p k)) .none .none)))) (.seq none .none (.cond .none (.seq none .none (.cond (.seq none .none (.seq (some (f35.J9p k)) .none .none)) .none))))) (codeAt f35.body [1, 1, 0, 1, 0, 1, 1, 1]) (f35.Q1 k) = (((((True) ∧ (((True) ∧ (((True) ∧ (((True) ∧ OKJ Tryz.prog none (f35.J8p k) (codeAt f35.body [1, 1, 0, 1, 0, 1, 1, 1, 0, 1, 1, 1, 1]) (f35.Q1 k))))))))) ∧ (((True) ∧ (((True) ∧ (((True) ∧ (((((True) ∧ (((True) ∧ OKJ Tryz.prog none (f35.J9p k) (codeAt f35.body [1, 1, 0, 1, 0, 1, 1, 1, 1, 1, 1, 1, 0, 1, 1]) (f35.Q1 k))))) ∧ (True)))))))))))) (⟨⟨trivial, ⟨trivial, ⟨trivial, ⟨trivial, f35.J8_ok⟩⟩⟩⟩, ⟨trivial, ⟨trivial, ⟨trivial, ⟨⟨trivial, ⟨trivial, f35.J9_ok⟩⟩, trivial⟩⟩⟩⟩⟩)
theorem f35.J7_ok {k : Value → World → Prop} : OKJ Tryz.prog none (f35.J7p k) (codeAt f35.body [1, 1, 0, 1, 0, 1, 1, 1]) (f35.Q1 k) := by
  intro a w h
  obtain ⟨D, us, ds, rfl, h0⟩ := PJ_out h
  obtain ⟨v, us, rfl, h1⟩ := un_out h0
  obtain ⟨p63, rfl, h2⟩ := asP_out h1
  obtain ⟨v, us, rfl, h3⟩ := un_out h2
  obtain ⟨n64, rfl, h4⟩ := asI_out h3
  obtain ⟨v, us, rfl, h5⟩ := un_out h4
  obtain ⟨q65, rfl, h6⟩ := asBox_out h5
  obtain ⟨v, us, rfl, h7⟩ := un_out h6
  obtain ⟨q66, rfl, h8⟩ := asBox_out h7
  obtain ⟨v, us, rfl, h9⟩ := un_out h8
  obtain ⟨q67, rfl, h10⟩ := asBox_out h9
  obtain ⟨v, us, rfl, h11⟩ := un_out h10
  obtain ⟨n68, rfl, h12⟩ := asI_out h11
  obtain ⟨v, us, rfl, h13⟩ := un_out h12
  obtain ⟨b69, rfl, h14⟩ := asB_out h13
  obtain ⟨rfl, h15⟩ := nl_out h14
  obtain ⟨rfl, h16⟩ := dn_out h15
  rw [← f35.J7_den D p63 n64 q65 q66 q67 n68 b69 k w] at h16
  exact pc_wp Tryz.mixed f35.J7_okc h16
theorem f35.J2_den (D : Nat → Value) (p10 : Option Addr) (n11 : Int) (q12 : Nat) (q13 : Nat) (q14 : Nat) (n15 : Int) (b16 : Bool) (k : Value → World → Prop) (w : World) : pc Tryz.prog none (.cond (.seq none .none (.seq none .none (.seq (some (f35.J3p k)) (.seq none .none (.block (.at (f35.L4p k)))) .none))) (.seq (some (f35.J7p k)) .none .none)) (codeAt f35.body [1, 1, 0, 1, 0, 1]) (f35.Q1 k) D 182 [181, 179, 177, 175, 173, 165, 164] [.pointer p10, .int .i64 n11, .pointer (some ⟨q12, 0, none⟩), .pointer (some ⟨q13, 0, none⟩), .pointer (some ⟨q14, 0, none⟩), .int .u8 n15, .bool b16] [] w = f35.J2 p10 n11 q12 q13 q14 n15 b16 k w := by kernel_rfl
theorem f35.J2_okc {k : Value → World → Prop} : okC Tryz.prog none (.cond (.seq none .none (.seq none .none (.seq (some (f35.J3p k)) (.seq none .none (.block (.at (f35.L4p k)))) .none))) (.seq (some (f35.J7p k)) .none .none)) (codeAt f35.body [1, 1, 0, 1, 0, 1]) (f35.Q1 k) :=
  Eq.mpr (by kernel_rfl : okC Tryz.prog none (.cond (.seq none .none (.seq none .none (.seq (some (f35.J3p k)) (.seq none .none (.block (.at (f35.L4p k)))) .none))) (.seq (some (f35.J7p k)) .none .none)) (codeAt f35.body [1, 1, 0, 1, 0, 1]) (f35.Q1 k) = (((((True) ∧ (((True) ∧ (((((True) ∧ (OKJ Tryz.prog none (f35.L4p k) (codeAt f35.body [1, 1, 0, 1, 0, 1, 0, 1, 1, 0, 1, 0]) (f35.Q2 k)))) ∧ OKJ Tryz.prog none (f35.J3p k) (codeAt f35.body [1, 1, 0, 1, 0, 1, 0, 1, 1, 1]) (f35.Q1 k))))))) ∧ (((True) ∧ OKJ Tryz.prog none (f35.J7p k) (codeAt f35.body [1, 1, 0, 1, 0, 1, 1, 1]) (f35.Q1 k)))))) (⟨⟨trivial, ⟨trivial, ⟨⟨trivial, f35.L4_ok⟩, f35.J3_ok⟩⟩⟩, ⟨trivial, f35.J7_ok⟩⟩)
theorem f35.J2_ok {k : Value → World → Prop} : OKJ Tryz.prog none (f35.J2p k) (codeAt f35.body [1, 1, 0, 1, 0, 1]) (f35.Q1 k) := by
  intro a w h
  obtain ⟨D, us, ds, rfl, h0⟩ := PJ_out h
  obtain ⟨v, us, rfl, h1⟩ := un_out h0
  obtain ⟨p10, rfl, h2⟩ := asP_out h1
  obtain ⟨v, us, rfl, h3⟩ := un_out h2
  obtain ⟨n11, rfl, h4⟩ := asI_out h3
  obtain ⟨v, us, rfl, h5⟩ := un_out h4
  obtain ⟨q12, rfl, h6⟩ := asBox_out h5
  obtain ⟨v, us, rfl, h7⟩ := un_out h6
  obtain ⟨q13, rfl, h8⟩ := asBox_out h7
  obtain ⟨v, us, rfl, h9⟩ := un_out h8
  obtain ⟨q14, rfl, h10⟩ := asBox_out h9
  obtain ⟨v, us, rfl, h11⟩ := un_out h10
  obtain ⟨n15, rfl, h12⟩ := asI_out h11
  obtain ⟨v, us, rfl, h13⟩ := un_out h12
  obtain ⟨b16, rfl, h14⟩ := asB_out h13
  obtain ⟨rfl, h15⟩ := nl_out h14
  obtain ⟨rfl, h16⟩ := dn_out h15
  rw [← f35.J2_den D p10 n11 q12 q13 q14 n15 b16 k w] at h16
  exact pc_wp Tryz.mixed f35.J2_okc h16
def f35.b (p1 : Option Addr) (b2 : Bool) (n3 : Int) (s4 : ByteArray) (n5 : Int) (k : Value → World → Prop) (w : World) : Prop :=
  AL (.cells #[.bool b2, .int .u8 n3, .string s4] 24) (fun q6 w => AL (.cells #[.bool false, .int .u8 0, .string (⟨#[]⟩ : ByteArray)] 24) (fun q7 w => AL (.cells #[.bool false, .int .u8 0, .string (⟨#[]⟩ : ByteArray)] 24) (fun q8 w => ST (Addr.add ⟨q8, 0, none⟩ 0) (.bool false) (fun w => ST (Addr.add ⟨q8, 0, none⟩ 1) (.int .u8 0) (fun w => ST (Addr.add ⟨q8, 0, none⟩ 2) (.string (⟨#[]⟩ : ByteArray)) (fun w => LD (Value.int .u8) (Addr.add ⟨q6, 0, none⟩ 1) (fun n9 w => brK (n9 == 105) (f35.J2 p1 n5 q6 q7 q8 n9 (n9 == 105) k w) (brK (n9 == 109) (f35.J2 p1 n5 q6 q7 q8 n9 (n9 == 109) k w) (brK (n9 == 110) (f35.J2 p1 n5 q6 q7 q8 n9 (n9 == 110) k w) (brK (n9 == 115) (f35.J2 p1 n5 q6 q7 q8 n9 (n9 == 115) k w) (f35.J2 p1 n5 q6 q7 q8 n9 (n9 == 116) k w))))) w) w) w) w) w) w) w
theorem f35.den (p1 : Option Addr) (b2 : Bool) (n3 : Int) (s4 : ByteArray) (n5 : Int) (k : Value → World → Prop) (w : World) : pc Tryz.prog none (.seq none .none (.seq none .none (.seq (some (f35.J1p k)) (.seq none .none (.block (.seq (some (f35.J2p k)) .none .none))) .none))) f35.body (retQ Tryz.prog [.cell 6 24, .tmp 7] k) (fun _ => undef) 182 [181, 180, 179] [.pointer p1, .agg #[.bool b2, .int .u8 n3, .string s4], .int .i64 n5] [] w = f35.b p1 b2 n3 s4 n5 k w := by kernel_rfl
theorem f35.okc {k : Value → World → Prop} : okC Tryz.prog none (.seq none .none (.seq none .none (.seq (some (f35.J1p k)) (.seq none .none (.block (.seq (some (f35.J2p k)) .none .none))) .none))) f35.body (retQ Tryz.prog [.cell 6 24, .tmp 7] k) :=
  Eq.mpr (by kernel_rfl : okC Tryz.prog none (.seq none .none (.seq none .none (.seq (some (f35.J1p k)) (.seq none .none (.block (.seq (some (f35.J2p k)) .none .none))) .none))) f35.body (retQ Tryz.prog [.cell 6 24, .tmp 7] k) = (((True) ∧ (((True) ∧ (((((True) ∧ (((True) ∧ OKJ Tryz.prog none (f35.J2p k) (codeAt f35.body [1, 1, 0, 1, 0, 1]) (f35.Q1 k))))) ∧ OKJ Tryz.prog none (f35.J1p k) (codeAt f35.body [1, 1, 1]) (f35.Q4 k)))))))) (⟨trivial, ⟨trivial, ⟨⟨trivial, ⟨trivial, f35.J2_ok⟩⟩, f35.J1_ok⟩⟩⟩)
theorem f35.call {p1 : Option Addr} {b2 : Bool} {n3 : Int} {s4 : ByteArray} {n5 : Int} {k : Value → World → Prop} {w : World} (h : f35.b p1 b2 n3 s4 n5 k w) : CALL Tryz.prog 35 #[.pointer p1, .agg #[.bool b2, .int .u8 n3, .string s4], .int .i64 n5] k w :=
  calls_of_pc Tryz.mixed Tryz.func35 (by kernel_rfl : Tryz.f35.body = some f35.body) (Tryz.call35 _ _) (by kernel_rfl : #[.pointer p1, .agg #[.bool b2, .int .u8 n3, .string s4], .int .i64 n5] ++ Array.replicate (Tryz.f35.ntmps - (#[.pointer p1, .agg #[.bool b2, .int .u8 n3, .string s4], .int .i64 n5] : Array Value).size) undef = (FR (fun _ => undef) 182 [181, 180, 179] [.pointer p1, .agg #[.bool b2, .int .u8 n3, .string s4], .int .i64 n5]).toArray) (by kernel_rfl : Tryz.f35.results.toList = [.cell 6 24, .tmp 7]) f35.okc ((f35.den p1 b2 n3 s4 n5 k w).symm ▸ h)

/-! rollcall/valid.kinds -/
noncomputable def f88.body : Code := (Tryz.f88.body).getD .skip
def f88.J1 (q78 : Nat) (q79 : Nat) (k : Value → World → Prop) (w : World) : Prop :=
  LDA 256 ⟨q79, 0, none⟩ (fun c80 w => RQ (Array.size c80 = 256) (stAll ⟨q78, 0, none⟩ (fun w => LDA 256 ⟨q78, 0, none⟩ (fun c81 w => k (.agg c81) w) w) (Array.toList c80) 0 w)) w
def f88.J1p (k : Value → World → Prop) : Act → World → Prop := PJ 94 [93, 92] fun us ds w => un us fun v us => asBox v fun q78 => un us fun v us => asBox v fun q79 => nl us (dn ds (f88.J1 q78 q79 k w))
def f88.Q1 (k : Value → World → Prop) : Exit → Act → World → Prop := (Exit.inBlock 0 (Exit.then (f88.J1p k) (retQ Tryz.prog [.cell 0 117] k)))
def f88.L2k (Kn1 : Nat → Nat → Int → World → Prop) : Act → World → Prop := PJ 94 [93, 92, 88] fun us ds w => un us fun v us => asBox v fun q3 => un us fun v us => asBox v fun q4 => un us fun v us => asI .i64 v fun n5 => nl us (dn ds (Kn1 q3 q4 n5 w))
def f88.J3 (q67 : Nat) (q68 : Nat) (n69 : Int) (Kn1 : Nat → Nat → Int → World → Prop) (k : Value → World → Prop) (w : World) : Prop :=
  Kn1 q67 q68 (IntKind.wrap .i64 (n69 + 1)) w
def f88.J3p (Kn1 : Nat → Nat → Int → World → Prop) (k : Value → World → Prop) : Act → World → Prop := PJ 94 [93, 92, 88] fun us ds w => un us fun v us => asBox v fun q67 => un us fun v us => asBox v fun q68 => un us fun v us => asI .i64 v fun n69 => nl us (dn ds (f88.J3 q67 q68 n69 Kn1 k w))
def f88.Q2 (Kn1 : Nat → Nat → Int → World → Prop) (k : Value → World → Prop) : Exit → Act → World → Prop := (Exit.inBlock 1 (Exit.then (f88.J3p Kn1 k) (Exit.then (f88.L2k Kn1) (f88.Q1 k))))
def f88.Q3 (Kn1 : Nat → Nat → Int → World → Prop) (k : Value → World → Prop) : Exit → Act → World → Prop := (Exit.then (f88.L2k Kn1) (f88.Q1 k))
def f88.J11 (q60 : Nat) (q61 : Nat) (n62 : Int) (n63 : Int) (Kn1 : Nat → Nat → Int → World → Prop) (k : Value → World → Prop) (w : World) : Prop :=
  CALL Tryz.prog 114 #[.string (⟨#[0, 10, 13]⟩ : ByteArray), .int .i64 n62] (fun v64 w => ∃ b65 : Bool, v64 = .bool b65 ∧ brK (!b65) (RQ (0 ≤ (n62 : Int) ∧ (n62 : Int) < ((256 : Nat) : Int)) (LD (Value.int .u16) (Addr.add ⟨q61, 0, none⟩ (Int.toNat n62 * 1)) (fun n66 w => RQ (0 ≤ (n62 : Int) ∧ (n62 : Int) < ((256 : Nat) : Int)) (ST (Addr.add (Addr.add ⟨q61, 0, none⟩ (Int.toNat n62 * 1)) 0) (.int .u16 (intBit .or .u16 n66 64)) (fun w => f88.J3 q60 q61 n63 Kn1 k w) w)) w)) (f88.J3 q60 q61 n63 Kn1 k w)) w
def f88.J11p (Kn1 : Nat → Nat → Int → World → Prop) (k : Value → World → Prop) : Act → World → Prop := PJ 94 [93, 92, 91, 88] fun us ds w => un us fun v us => asBox v fun q60 => un us fun v us => asBox v fun q61 => un us fun v us => asI .i64 v fun n62 => un us fun v us => asI .i64 v fun n63 => nl us (dn ds (f88.J11 q60 q61 n62 n63 Kn1 k w))
def f88.J10 (q54 : Nat) (q55 : Nat) (n56 : Int) (b57 : Bool) (n58 : Int) (Kn1 : Nat → Nat → Int → World → Prop) (k : Value → World → Prop) (w : World) : Prop :=
  brK b57 (brK (n56 != 44) (RQ (0 ≤ (n56 : Int) ∧ (n56 : Int) < ((256 : Nat) : Int)) (LD (Value.int .u16) (Addr.add ⟨q55, 0, none⟩ (Int.toNat n56 * 1)) (fun n59 w => RQ (0 ≤ (n56 : Int) ∧ (n56 : Int) < ((256 : Nat) : Int)) (ST (Addr.add (Addr.add ⟨q55, 0, none⟩ (Int.toNat n56 * 1)) 0) (.int .u16 (intBit .or .u16 n59 32)) (fun w => f88.J11 q54 q55 n56 n58 Kn1 k w) w)) w)) (f88.J11 q54 q55 n56 n58 Kn1 k w)) (f88.J11 q54 q55 n56 n58 Kn1 k w)
def f88.J10p (Kn1 : Nat → Nat → Int → World → Prop) (k : Value → World → Prop) : Act → World → Prop := PJ 94 [93, 92, 91, 89, 88] fun us ds w => un us fun v us => asBox v fun q54 => un us fun v us => asBox v fun q55 => un us fun v us => asI .i64 v fun n56 => un us fun v us => asB v fun b57 => un us fun v us => asI .i64 v fun n58 => nl us (dn ds (f88.J10 q54 q55 n56 b57 n58 Kn1 k w))
def f88.J9 (q45 : Nat) (q46 : Nat) (n47 : Int) (b48 : Bool) (b49 : Bool) (n50 : Int) (Kn1 : Nat → Nat → Int → World → Prop) (k : Value → World → Prop) (w : World) : Prop :=
  CALL Tryz.prog 113 #[.int .i64 n47] (fun v51 w => ∃ b52 : Bool, v51 = .bool b52 ∧ brK b52 (RQ (0 ≤ (n47 : Int) ∧ (n47 : Int) < ((256 : Nat) : Int)) (LD (Value.int .u16) (Addr.add ⟨q46, 0, none⟩ (Int.toNat n47 * 1)) (fun n53 w => RQ (0 ≤ (n47 : Int) ∧ (n47 : Int) < ((256 : Nat) : Int)) (ST (Addr.add (Addr.add ⟨q46, 0, none⟩ (Int.toNat n47 * 1)) 0) (.int .u16 (intBit .or .u16 n53 16)) (fun w => f88.J10 q45 q46 n47 b49 n50 Kn1 k w) w)) w)) (brK b48 (RQ (0 ≤ (n47 : Int) ∧ (n47 : Int) < ((256 : Nat) : Int)) (LD (Value.int .u16) (Addr.add ⟨q46, 0, none⟩ (Int.toNat n47 * 1)) (fun n70 w => RQ (0 ≤ (n47 : Int) ∧ (n47 : Int) < ((256 : Nat) : Int)) (ST (Addr.add (Addr.add ⟨q46, 0, none⟩ (Int.toNat n47 * 1)) 0) (.int .u16 (intBit .or .u16 n70 16)) (fun w => f88.J10 q45 q46 n47 b49 n50 Kn1 k w) w)) w)) (CALL Tryz.prog 114 #[.string (⟨#[46, 45, 58]⟩ : ByteArray), .int .i64 n47] (fun v71 w => ∃ b72 : Bool, v71 = .bool b72 ∧ brK b72 (RQ (0 ≤ (n47 : Int) ∧ (n47 : Int) < ((256 : Nat) : Int)) (LD (Value.int .u16) (Addr.add ⟨q46, 0, none⟩ (Int.toNat n47 * 1)) (fun n73 w => RQ (0 ≤ (n47 : Int) ∧ (n47 : Int) < ((256 : Nat) : Int)) (ST (Addr.add (Addr.add ⟨q46, 0, none⟩ (Int.toNat n47 * 1)) 0) (.int .u16 (intBit .or .u16 n73 16)) (fun w => f88.J10 q45 q46 n47 b49 n50 Kn1 k w) w)) w)) (f88.J10 q45 q46 n47 b49 n50 Kn1 k w)) w))) w
def f88.J9p (Kn1 : Nat → Nat → Int → World → Prop) (k : Value → World → Prop) : Act → World → Prop := PJ 94 [93, 92, 91, 90, 89, 88] fun us ds w => un us fun v us => asBox v fun q45 => un us fun v us => asBox v fun q46 => un us fun v us => asI .i64 v fun n47 => un us fun v us => asB v fun b48 => un us fun v us => asB v fun b49 => un us fun v us => asI .i64 v fun n50 => nl us (dn ds (f88.J9 q45 q46 n47 b48 b49 n50 Kn1 k w))
def f88.J8 (q36 : Nat) (q37 : Nat) (n38 : Int) (b39 : Bool) (b40 : Bool) (n41 : Int) (Kn1 : Nat → Nat → Int → World → Prop) (k : Value → World → Prop) (w : World) : Prop :=
  brK b40 (CALL Tryz.prog 114 #[.string (⟨#[33, 64, 42, 63, 58]⟩ : ByteArray), .int .i64 n38] (fun v42 w => ∃ b43 : Bool, v42 = .bool b43 ∧ brK (!b43) (RQ (0 ≤ (n38 : Int) ∧ (n38 : Int) < ((256 : Nat) : Int)) (LD (Value.int .u16) (Addr.add ⟨q37, 0, none⟩ (Int.toNat n38 * 1)) (fun n44 w => RQ (0 ≤ (n38 : Int) ∧ (n38 : Int) < ((256 : Nat) : Int)) (ST (Addr.add (Addr.add ⟨q37, 0, none⟩ (Int.toNat n38 * 1)) 0) (.int .u16 (intBit .or .u16 n44 8)) (fun w => f88.J9 q36 q37 n38 b39 b40 n41 Kn1 k w) w)) w)) (f88.J9 q36 q37 n38 b39 b40 n41 Kn1 k w)) w) (f88.J9 q36 q37 n38 b39 b40 n41 Kn1 k w)
def f88.J8p (Kn1 : Nat → Nat → Int → World → Prop) (k : Value → World → Prop) : Act → World → Prop := PJ 94 [93, 92, 91, 90, 89, 88] fun us ds w => un us fun v us => asBox v fun q36 => un us fun v us => asBox v fun q37 => un us fun v us => asI .i64 v fun n38 => un us fun v us => asB v fun b39 => un us fun v us => asB v fun b40 => un us fun v us => asI .i64 v fun n41 => nl us (dn ds (f88.J8 q36 q37 n38 b39 b40 n41 Kn1 k w))
def f88.J7 (q27 : Nat) (q28 : Nat) (n29 : Int) (b30 : Bool) (b31 : Bool) (n32 : Int) (Kn1 : Nat → Nat → Int → World → Prop) (k : Value → World → Prop) (w : World) : Prop :=
  CALL Tryz.prog 114 #[.string (⟨#[0, 7, 10, 13, 32, 44, 58]⟩ : ByteArray), .int .i64 n29] (fun v33 w => ∃ b34 : Bool, v33 = .bool b34 ∧ brK (!b34) (RQ (0 ≤ (n29 : Int) ∧ (n29 : Int) < ((256 : Nat) : Int)) (LD (Value.int .u16) (Addr.add ⟨q28, 0, none⟩ (Int.toNat n29 * 1)) (fun n35 w => RQ (0 ≤ (n29 : Int) ∧ (n29 : Int) < ((256 : Nat) : Int)) (ST (Addr.add (Addr.add ⟨q28, 0, none⟩ (Int.toNat n29 * 1)) 0) (.int .u16 (intBit .or .u16 n35 4)) (fun w => f88.J8 q27 q28 n29 b30 b31 n32 Kn1 k w) w)) w)) (f88.J8 q27 q28 n29 b30 b31 n32 Kn1 k w)) w
def f88.J7p (Kn1 : Nat → Nat → Int → World → Prop) (k : Value → World → Prop) : Act → World → Prop := PJ 94 [93, 92, 91, 90, 89, 88] fun us ds w => un us fun v us => asBox v fun q27 => un us fun v us => asBox v fun q28 => un us fun v us => asI .i64 v fun n29 => un us fun v us => asB v fun b30 => un us fun v us => asB v fun b31 => un us fun v us => asI .i64 v fun n32 => nl us (dn ds (f88.J7 q27 q28 n29 b30 b31 n32 Kn1 k w))
def f88.J6 (q20 : Nat) (q21 : Nat) (n22 : Int) (b23 : Bool) (b24 : Bool) (n25 : Int) (Kn1 : Nat → Nat → Int → World → Prop) (k : Value → World → Prop) (w : World) : Prop :=
  brK b23 (RQ (0 ≤ (n22 : Int) ∧ (n22 : Int) < ((256 : Nat) : Int)) (LD (Value.int .u16) (Addr.add ⟨q21, 0, none⟩ (Int.toNat n22 * 1)) (fun n26 w => RQ (0 ≤ (n22 : Int) ∧ (n22 : Int) < ((256 : Nat) : Int)) (ST (Addr.add (Addr.add ⟨q21, 0, none⟩ (Int.toNat n22 * 1)) 0) (.int .u16 (intBit .or .u16 n26 2)) (fun w => f88.J7 q20 q21 n22 b23 b24 n25 Kn1 k w) w)) w)) (brK (n22 == 45) (RQ (0 ≤ (n22 : Int) ∧ (n22 : Int) < ((256 : Nat) : Int)) (LD (Value.int .u16) (Addr.add ⟨q21, 0, none⟩ (Int.toNat n22 * 1)) (fun n74 w => RQ (0 ≤ (n22 : Int) ∧ (n22 : Int) < ((256 : Nat) : Int)) (ST (Addr.add (Addr.add ⟨q21, 0, none⟩ (Int.toNat n22 * 1)) 0) (.int .u16 (intBit .or .u16 n74 2)) (fun w => f88.J7 q20 q21 n22 b23 b24 n25 Kn1 k w) w)) w)) (f88.J7 q20 q21 n22 b23 b24 n25 Kn1 k w))
def f88.J6p (Kn1 : Nat → Nat → Int → World → Prop) (k : Value → World → Prop) : Act → World → Prop := PJ 94 [93, 92, 91, 90, 89, 88] fun us ds w => un us fun v us => asBox v fun q20 => un us fun v us => asBox v fun q21 => un us fun v us => asI .i64 v fun n22 => un us fun v us => asB v fun b23 => un us fun v us => asB v fun b24 => un us fun v us => asI .i64 v fun n25 => nl us (dn ds (f88.J6 q20 q21 n22 b23 b24 n25 Kn1 k w))
def f88.J5 (q11 : Nat) (q12 : Nat) (n13 : Int) (b14 : Bool) (b15 : Bool) (n16 : Int) (Kn1 : Nat → Nat → Int → World → Prop) (k : Value → World → Prop) (w : World) : Prop :=
  CALL Tryz.prog 113 #[.int .i64 n13] (fun v17 w => ∃ b18 : Bool, v17 = .bool b18 ∧ brK b18 (RQ (0 ≤ (n13 : Int) ∧ (n13 : Int) < ((256 : Nat) : Int)) (LD (Value.int .u16) (Addr.add ⟨q12, 0, none⟩ (Int.toNat n13 * 1)) (fun n19 w => RQ (0 ≤ (n13 : Int) ∧ (n13 : Int) < ((256 : Nat) : Int)) (ST (Addr.add (Addr.add ⟨q12, 0, none⟩ (Int.toNat n13 * 1)) 0) (.int .u16 (intBit .or .u16 n19 3)) (fun w => f88.J6 q11 q12 n13 b14 b15 n16 Kn1 k w) w)) w)) (CALL Tryz.prog 114 #[.string (⟨#[91, 93, 92, 95, 94, 123, 124, 125, 96]⟩ : ByteArray), .int .i64 n13] (fun v75 w => ∃ b76 : Bool, v75 = .bool b76 ∧ brK b76 (RQ (0 ≤ (n13 : Int) ∧ (n13 : Int) < ((256 : Nat) : Int)) (LD (Value.int .u16) (Addr.add ⟨q12, 0, none⟩ (Int.toNat n13 * 1)) (fun n77 w => RQ (0 ≤ (n13 : Int) ∧ (n13 : Int) < ((256 : Nat) : Int)) (ST (Addr.add (Addr.add ⟨q12, 0, none⟩ (Int.toNat n13 * 1)) 0) (.int .u16 (intBit .or .u16 n77 3)) (fun w => f88.J6 q11 q12 n13 b14 b15 n16 Kn1 k w) w)) w)) (f88.J6 q11 q12 n13 b14 b15 n16 Kn1 k w)) w)) w
def f88.J5p (Kn1 : Nat → Nat → Int → World → Prop) (k : Value → World → Prop) : Act → World → Prop := PJ 94 [93, 92, 91, 90, 89, 88] fun us ds w => un us fun v us => asBox v fun q11 => un us fun v us => asBox v fun q12 => un us fun v us => asI .i64 v fun n13 => un us fun v us => asB v fun b14 => un us fun v us => asB v fun b15 => un us fun v us => asI .i64 v fun n16 => nl us (dn ds (f88.J5 q11 q12 n13 b14 b15 n16 Kn1 k w))
def f88.J4 (q6 : Nat) (q7 : Nat) (n8 : Int) (b9 : Bool) (n10 : Int) (Kn1 : Nat → Nat → Int → World → Prop) (k : Value → World → Prop) (w : World) : Prop :=
  brK (decide ((33 : Int) ≤ n8)) (f88.J5 q6 q7 n8 b9 (decide (n8 ≤ 126)) n10 Kn1 k w) (f88.J5 q6 q7 n8 b9 false n10 Kn1 k w)
def f88.J4p (Kn1 : Nat → Nat → Int → World → Prop) (k : Value → World → Prop) : Act → World → Prop := PJ 94 [93, 92, 91, 90, 88] fun us ds w => un us fun v us => asBox v fun q6 => un us fun v us => asBox v fun q7 => un us fun v us => asI .i64 v fun n8 => un us fun v us => asB v fun b9 => un us fun v us => asI .i64 v fun n10 => nl us (dn ds (f88.J4 q6 q7 n8 b9 n10 Kn1 k w))
def f88.Q4 (k : Value → World → Prop) : Exit → Act → World → Prop := (retQ Tryz.prog [.cell 0 117] k)
def f88.L2 (q3 : Nat) (q4 : Nat) (n5 : Int) (Kn1 : Nat → Nat → Int → World → Prop) (k : Value → World → Prop) (w : World) : Prop :=
  brK (decide (n5 < 256)) (brK (decide ((48 : Int) ≤ n5)) (f88.J4 q3 q4 n5 (decide (n5 ≤ 57)) n5 Kn1 k w) (f88.J4 q3 q4 n5 false n5 Kn1 k w)) (f88.J1 q3 q4 k w)
def f88.L2lp (q3 : Nat) (q4 : Nat) (n5 : Int) (k : Value → World → Prop) (w : World) : Prop := ∀ D : Nat → Value, (Code.loop (codeAt f88.body [1, 1, 0, 1, 0, 0])).wpIn (Wd none) 0 Tryz.prog (f88.Q1 k) (fr D 94 [93, 92, 88] [.pointer (some ⟨q3, 0, none⟩), .pointer (some ⟨q4, 0, none⟩), .int .i64 n5] []) w
def f88.L2p (k : Value → World → Prop) : Act → World → Prop := PJ 94 [93, 92, 88] fun us ds w => un us fun v us => asBox v fun q3 => un us fun v us => asBox v fun q4 => un us fun v us => asI .i64 v fun n5 => nl us (dn ds (f88.L2lp q3 q4 n5 k w))
def f88.L2K (q3 : Nat) (q4 : Nat) (I : Int → World → Prop) (μ : Int → World → Nat) (m : Nat) (q3' : Nat) (q4' : Nat) (n5' : Int) (w : World) : Prop := (q3' = q3 ∧ q4' = q4) ∧ I n5' w ∧ μ n5' w < m
theorem f88.J3_den (D : Nat → Value) (q67 : Nat) (q68 : Nat) (n69 : Int) (Kn1 : Nat → Nat → Int → World → Prop) (k : Value → World → Prop) (w : World) : pc Tryz.prog none .none (codeAt f88.body [1, 1, 0, 1, 0, 0, 1, 1, 1]) (f88.Q3 Kn1 k) D 94 [93, 92, 88] [.pointer (some ⟨q67, 0, none⟩), .pointer (some ⟨q68, 0, none⟩), .int .i64 n69] [] w = f88.J3 q67 q68 n69 Kn1 k w := by kernel_rfl
theorem f88.J3_okc {Kn1 : Nat → Nat → Int → World → Prop} {k : Value → World → Prop} : okC Tryz.prog none .none (codeAt f88.body [1, 1, 0, 1, 0, 0, 1, 1, 1]) (f88.Q3 Kn1 k) :=
  Eq.mpr (by kernel_rfl : okC Tryz.prog none .none (codeAt f88.body [1, 1, 0, 1, 0, 0, 1, 1, 1]) (f88.Q3 Kn1 k) = (True)) (trivial)
theorem f88.J3_ok {Kn1 : Nat → Nat → Int → World → Prop} {k : Value → World → Prop} : OKJ Tryz.prog none (f88.J3p Kn1 k) (codeAt f88.body [1, 1, 0, 1, 0, 0, 1, 1, 1]) (f88.Q3 Kn1 k) := by
  intro a w h
  obtain ⟨D, us, ds, rfl, h0⟩ := PJ_out h
  obtain ⟨v, us, rfl, h1⟩ := un_out h0
  obtain ⟨q67, rfl, h2⟩ := asBox_out h1
  obtain ⟨v, us, rfl, h3⟩ := un_out h2
  obtain ⟨q68, rfl, h4⟩ := asBox_out h3
  obtain ⟨v, us, rfl, h5⟩ := un_out h4
  obtain ⟨n69, rfl, h6⟩ := asI_out h5
  obtain ⟨rfl, h7⟩ := nl_out h6
  obtain ⟨rfl, h8⟩ := dn_out h7
  rw [← f88.J3_den D q67 q68 n69 Kn1 k w] at h8
  exact pc_wp Tryz.mixed f88.J3_okc h8
theorem f88.J11_den (D : Nat → Value) (q60 : Nat) (q61 : Nat) (n62 : Int) (n63 : Int) (Kn1 : Nat → Nat → Int → World → Prop) (k : Value → World → Prop) (w : World) : pc Tryz.prog none .none (codeAt f88.body [1, 1, 0, 1, 0, 0, 1, 1, 0, 0, 1, 1, 1, 1, 1, 1, 1, 1, 1]) (f88.Q2 Kn1 k) D 94 [93, 92, 91, 88] [.pointer (some ⟨q60, 0, none⟩), .pointer (some ⟨q61, 0, none⟩), .int .i64 n62, .int .i64 n63] [] w = f88.J11 q60 q61 n62 n63 Kn1 k w := by kernel_rfl
theorem f88.J11_okc {Kn1 : Nat → Nat → Int → World → Prop} {k : Value → World → Prop} : okC Tryz.prog none .none (codeAt f88.body [1, 1, 0, 1, 0, 0, 1, 1, 0, 0, 1, 1, 1, 1, 1, 1, 1, 1, 1]) (f88.Q2 Kn1 k) :=
  Eq.mpr (by kernel_rfl : okC Tryz.prog none .none (codeAt f88.body [1, 1, 0, 1, 0, 0, 1, 1, 0, 0, 1, 1, 1, 1, 1, 1, 1, 1, 1]) (f88.Q2 Kn1 k) = (True)) (trivial)
theorem f88.J11_ok {Kn1 : Nat → Nat → Int → World → Prop} {k : Value → World → Prop} : OKJ Tryz.prog none (f88.J11p Kn1 k) (codeAt f88.body [1, 1, 0, 1, 0, 0, 1, 1, 0, 0, 1, 1, 1, 1, 1, 1, 1, 1, 1]) (f88.Q2 Kn1 k) := by
  intro a w h
  obtain ⟨D, us, ds, rfl, h0⟩ := PJ_out h
  obtain ⟨v, us, rfl, h1⟩ := un_out h0
  obtain ⟨q60, rfl, h2⟩ := asBox_out h1
  obtain ⟨v, us, rfl, h3⟩ := un_out h2
  obtain ⟨q61, rfl, h4⟩ := asBox_out h3
  obtain ⟨v, us, rfl, h5⟩ := un_out h4
  obtain ⟨n62, rfl, h6⟩ := asI_out h5
  obtain ⟨v, us, rfl, h7⟩ := un_out h6
  obtain ⟨n63, rfl, h8⟩ := asI_out h7
  obtain ⟨rfl, h9⟩ := nl_out h8
  obtain ⟨rfl, h10⟩ := dn_out h9
  rw [← f88.J11_den D q60 q61 n62 n63 Kn1 k w] at h10
  exact pc_wp Tryz.mixed f88.J11_okc h10
theorem f88.J10_den (D : Nat → Value) (q54 : Nat) (q55 : Nat) (n56 : Int) (b57 : Bool) (n58 : Int) (Kn1 : Nat → Nat → Int → World → Prop) (k : Value → World → Prop) (w : World) : pc Tryz.prog none (.seq (some (f88.J11p Kn1 k)) .none .none) (codeAt f88.body [1, 1, 0, 1, 0, 0, 1, 1, 0, 0, 1, 1, 1, 1, 1, 1, 1, 1]) (f88.Q2 Kn1 k) D 94 [93, 92, 91, 89, 88] [.pointer (some ⟨q54, 0, none⟩), .pointer (some ⟨q55, 0, none⟩), .int .i64 n56, .bool b57, .int .i64 n58] [] w = f88.J10 q54 q55 n56 b57 n58 Kn1 k w := by kernel_rfl
theorem f88.J10_okc {Kn1 : Nat → Nat → Int → World → Prop} {k : Value → World → Prop} : okC Tryz.prog none (.seq (some (f88.J11p Kn1 k)) .none .none) (codeAt f88.body [1, 1, 0, 1, 0, 0, 1, 1, 0, 0, 1, 1, 1, 1, 1, 1, 1, 1]) (f88.Q2 Kn1 k) :=
  Eq.mpr (by kernel_rfl : okC Tryz.prog none (.seq (some (f88.J11p Kn1 k)) .none .none) (codeAt f88.body [1, 1, 0, 1, 0, 0, 1, 1, 0, 0, 1, 1, 1, 1, 1, 1, 1, 1]) (f88.Q2 Kn1 k) = (((True) ∧ OKJ Tryz.prog none (f88.J11p Kn1 k) (codeAt f88.body [1, 1, 0, 1, 0, 0, 1, 1, 0, 0, 1, 1, 1, 1, 1, 1, 1, 1, 1]) (f88.Q2 Kn1 k)))) (⟨trivial, f88.J11_ok⟩)
theorem f88.J10_ok {Kn1 : Nat → Nat → Int → World → Prop} {k : Value → World → Prop} : OKJ Tryz.prog none (f88.J10p Kn1 k) (codeAt f88.body [1, 1, 0, 1, 0, 0, 1, 1, 0, 0, 1, 1, 1, 1, 1, 1, 1, 1]) (f88.Q2 Kn1 k) := by
  intro a w h
  obtain ⟨D, us, ds, rfl, h0⟩ := PJ_out h
  obtain ⟨v, us, rfl, h1⟩ := un_out h0
  obtain ⟨q54, rfl, h2⟩ := asBox_out h1
  obtain ⟨v, us, rfl, h3⟩ := un_out h2
  obtain ⟨q55, rfl, h4⟩ := asBox_out h3
  obtain ⟨v, us, rfl, h5⟩ := un_out h4
  obtain ⟨n56, rfl, h6⟩ := asI_out h5
  obtain ⟨v, us, rfl, h7⟩ := un_out h6
  obtain ⟨b57, rfl, h8⟩ := asB_out h7
  obtain ⟨v, us, rfl, h9⟩ := un_out h8
  obtain ⟨n58, rfl, h10⟩ := asI_out h9
  obtain ⟨rfl, h11⟩ := nl_out h10
  obtain ⟨rfl, h12⟩ := dn_out h11
  rw [← f88.J10_den D q54 q55 n56 b57 n58 Kn1 k w] at h12
  exact pc_wp Tryz.mixed f88.J10_okc h12
theorem f88.J9_den (D : Nat → Value) (q45 : Nat) (q46 : Nat) (n47 : Int) (b48 : Bool) (b49 : Bool) (n50 : Int) (Kn1 : Nat → Nat → Int → World → Prop) (k : Value → World → Prop) (w : World) : pc Tryz.prog none (.seq (some (f88.J10p Kn1 k)) .none .none) (codeAt f88.body [1, 1, 0, 1, 0, 0, 1, 1, 0, 0, 1, 1, 1, 1, 1, 1, 1]) (f88.Q2 Kn1 k) D 94 [93, 92, 91, 90, 89, 88] [.pointer (some ⟨q45, 0, none⟩), .pointer (some ⟨q46, 0, none⟩), .int .i64 n47, .bool b48, .bool b49, .int .i64 n50] [] w = f88.J9 q45 q46 n47 b48 b49 n50 Kn1 k w := by kernel_rfl
theorem f88.J9_okc {Kn1 : Nat → Nat → Int → World → Prop} {k : Value → World → Prop} : okC Tryz.prog none (.seq (some (f88.J10p Kn1 k)) .none .none) (codeAt f88.body [1, 1, 0, 1, 0, 0, 1, 1, 0, 0, 1, 1, 1, 1, 1, 1, 1]) (f88.Q2 Kn1 k) :=
  Eq.mpr (by kernel_rfl : okC Tryz.prog none (.seq (some (f88.J10p Kn1 k)) .none .none) (codeAt f88.body [1, 1, 0, 1, 0, 0, 1, 1, 0, 0, 1, 1, 1, 1, 1, 1, 1]) (f88.Q2 Kn1 k) = (((True) ∧ OKJ Tryz.prog none (f88.J10p Kn1 k) (codeAt f88.body [1, 1, 0, 1, 0, 0, 1, 1, 0, 0, 1, 1, 1, 1, 1, 1, 1, 1]) (f88.Q2 Kn1 k)))) (⟨trivial, f88.J10_ok⟩)
theorem f88.J9_ok {Kn1 : Nat → Nat → Int → World → Prop} {k : Value → World → Prop} : OKJ Tryz.prog none (f88.J9p Kn1 k) (codeAt f88.body [1, 1, 0, 1, 0, 0, 1, 1, 0, 0, 1, 1, 1, 1, 1, 1, 1]) (f88.Q2 Kn1 k) := by
  intro a w h
  obtain ⟨D, us, ds, rfl, h0⟩ := PJ_out h
  obtain ⟨v, us, rfl, h1⟩ := un_out h0
  obtain ⟨q45, rfl, h2⟩ := asBox_out h1
  obtain ⟨v, us, rfl, h3⟩ := un_out h2
  obtain ⟨q46, rfl, h4⟩ := asBox_out h3
  obtain ⟨v, us, rfl, h5⟩ := un_out h4
  obtain ⟨n47, rfl, h6⟩ := asI_out h5
  obtain ⟨v, us, rfl, h7⟩ := un_out h6
  obtain ⟨b48, rfl, h8⟩ := asB_out h7
  obtain ⟨v, us, rfl, h9⟩ := un_out h8
  obtain ⟨b49, rfl, h10⟩ := asB_out h9
  obtain ⟨v, us, rfl, h11⟩ := un_out h10
  obtain ⟨n50, rfl, h12⟩ := asI_out h11
  obtain ⟨rfl, h13⟩ := nl_out h12
  obtain ⟨rfl, h14⟩ := dn_out h13
  rw [← f88.J9_den D q45 q46 n47 b48 b49 n50 Kn1 k w] at h14
  exact pc_wp Tryz.mixed f88.J9_okc h14
theorem f88.J8_den (D : Nat → Value) (q36 : Nat) (q37 : Nat) (n38 : Int) (b39 : Bool) (b40 : Bool) (n41 : Int) (Kn1 : Nat → Nat → Int → World → Prop) (k : Value → World → Prop) (w : World) : pc Tryz.prog none (.seq (some (f88.J9p Kn1 k)) .none .none) (codeAt f88.body [1, 1, 0, 1, 0, 0, 1, 1, 0, 0, 1, 1, 1, 1, 1, 1]) (f88.Q2 Kn1 k) D 94 [93, 92, 91, 90, 89, 88] [.pointer (some ⟨q36, 0, none⟩), .pointer (some ⟨q37, 0, none⟩), .int .i64 n38, .bool b39, .bool b40, .int .i64 n41] [] w = f88.J8 q36 q37 n38 b39 b40 n41 Kn1 k w := by kernel_rfl
theorem f88.J8_okc {Kn1 : Nat → Nat → Int → World → Prop} {k : Value → World → Prop} : okC Tryz.prog none (.seq (some (f88.J9p Kn1 k)) .none .none) (codeAt f88.body [1, 1, 0, 1, 0, 0, 1, 1, 0, 0, 1, 1, 1, 1, 1, 1]) (f88.Q2 Kn1 k) :=
  Eq.mpr (by kernel_rfl : okC Tryz.prog none (.seq (some (f88.J9p Kn1 k)) .none .none) (codeAt f88.body [1, 1, 0, 1, 0, 0, 1, 1, 0, 0, 1, 1, 1, 1, 1, 1]) (f88.Q2 Kn1 k) = (((True) ∧ OKJ Tryz.prog none (f88.J9p Kn1 k) (codeAt f88.body [1, 1, 0, 1, 0, 0, 1, 1, 0, 0, 1, 1, 1, 1, 1, 1, 1]) (f88.Q2 Kn1 k)))) (⟨trivial, f88.J9_ok⟩)
theorem f88.J8_ok {Kn1 : Nat → Nat → Int → World → Prop} {k : Value → World → Prop} : OKJ Tryz.prog none (f88.J8p Kn1 k) (codeAt f88.body [1, 1, 0, 1, 0, 0, 1, 1, 0, 0, 1, 1, 1, 1, 1, 1]) (f88.Q2 Kn1 k) := by
  intro a w h
  obtain ⟨D, us, ds, rfl, h0⟩ := PJ_out h
  obtain ⟨v, us, rfl, h1⟩ := un_out h0
  obtain ⟨q36, rfl, h2⟩ := asBox_out h1
  obtain ⟨v, us, rfl, h3⟩ := un_out h2
  obtain ⟨q37, rfl, h4⟩ := asBox_out h3
  obtain ⟨v, us, rfl, h5⟩ := un_out h4
  obtain ⟨n38, rfl, h6⟩ := asI_out h5
  obtain ⟨v, us, rfl, h7⟩ := un_out h6
  obtain ⟨b39, rfl, h8⟩ := asB_out h7
  obtain ⟨v, us, rfl, h9⟩ := un_out h8
  obtain ⟨b40, rfl, h10⟩ := asB_out h9
  obtain ⟨v, us, rfl, h11⟩ := un_out h10
  obtain ⟨n41, rfl, h12⟩ := asI_out h11
  obtain ⟨rfl, h13⟩ := nl_out h12
  obtain ⟨rfl, h14⟩ := dn_out h13
  rw [← f88.J8_den D q36 q37 n38 b39 b40 n41 Kn1 k w] at h14
  exact pc_wp Tryz.mixed f88.J8_okc h14
theorem f88.J7_den (D : Nat → Value) (q27 : Nat) (q28 : Nat) (n29 : Int) (b30 : Bool) (b31 : Bool) (n32 : Int) (Kn1 : Nat → Nat → Int → World → Prop) (k : Value → World → Prop) (w : World) : pc Tryz.prog none (.seq (some (f88.J8p Kn1 k)) .none .none) (codeAt f88.body [1, 1, 0, 1, 0, 0, 1, 1, 0, 0, 1, 1, 1, 1, 1]) (f88.Q2 Kn1 k) D 94 [93, 92, 91, 90, 89, 88] [.pointer (some ⟨q27, 0, none⟩), .pointer (some ⟨q28, 0, none⟩), .int .i64 n29, .bool b30, .bool b31, .int .i64 n32] [] w = f88.J7 q27 q28 n29 b30 b31 n32 Kn1 k w := by kernel_rfl
theorem f88.J7_okc {Kn1 : Nat → Nat → Int → World → Prop} {k : Value → World → Prop} : okC Tryz.prog none (.seq (some (f88.J8p Kn1 k)) .none .none) (codeAt f88.body [1, 1, 0, 1, 0, 0, 1, 1, 0, 0, 1, 1, 1, 1, 1]) (f88.Q2 Kn1 k) :=
  Eq.mpr (by kernel_rfl : okC Tryz.prog none (.seq (some (f88.J8p Kn1 k)) .none .none) (codeAt f88.body [1, 1, 0, 1, 0, 0, 1, 1, 0, 0, 1, 1, 1, 1, 1]) (f88.Q2 Kn1 k) = (((True) ∧ OKJ Tryz.prog none (f88.J8p Kn1 k) (codeAt f88.body [1, 1, 0, 1, 0, 0, 1, 1, 0, 0, 1, 1, 1, 1, 1, 1]) (f88.Q2 Kn1 k)))) (⟨trivial, f88.J8_ok⟩)
theorem f88.J7_ok {Kn1 : Nat → Nat → Int → World → Prop} {k : Value → World → Prop} : OKJ Tryz.prog none (f88.J7p Kn1 k) (codeAt f88.body [1, 1, 0, 1, 0, 0, 1, 1, 0, 0, 1, 1, 1, 1, 1]) (f88.Q2 Kn1 k) := by
  intro a w h
  obtain ⟨D, us, ds, rfl, h0⟩ := PJ_out h
  obtain ⟨v, us, rfl, h1⟩ := un_out h0
  obtain ⟨q27, rfl, h2⟩ := asBox_out h1
  obtain ⟨v, us, rfl, h3⟩ := un_out h2
  obtain ⟨q28, rfl, h4⟩ := asBox_out h3
  obtain ⟨v, us, rfl, h5⟩ := un_out h4
  obtain ⟨n29, rfl, h6⟩ := asI_out h5
  obtain ⟨v, us, rfl, h7⟩ := un_out h6
  obtain ⟨b30, rfl, h8⟩ := asB_out h7
  obtain ⟨v, us, rfl, h9⟩ := un_out h8
  obtain ⟨b31, rfl, h10⟩ := asB_out h9
  obtain ⟨v, us, rfl, h11⟩ := un_out h10
  obtain ⟨n32, rfl, h12⟩ := asI_out h11
  obtain ⟨rfl, h13⟩ := nl_out h12
  obtain ⟨rfl, h14⟩ := dn_out h13
  rw [← f88.J7_den D q27 q28 n29 b30 b31 n32 Kn1 k w] at h14
  exact pc_wp Tryz.mixed f88.J7_okc h14
theorem f88.J6_den (D : Nat → Value) (q20 : Nat) (q21 : Nat) (n22 : Int) (b23 : Bool) (b24 : Bool) (n25 : Int) (Kn1 : Nat → Nat → Int → World → Prop) (k : Value → World → Prop) (w : World) : pc Tryz.prog none (.seq (some (f88.J7p Kn1 k)) .none .none) (codeAt f88.body [1, 1, 0, 1, 0, 0, 1, 1, 0, 0, 1, 1, 1, 1]) (f88.Q2 Kn1 k) D 94 [93, 92, 91, 90, 89, 88] [.pointer (some ⟨q20, 0, none⟩), .pointer (some ⟨q21, 0, none⟩), .int .i64 n22, .bool b23, .bool b24, .int .i64 n25] [] w = f88.J6 q20 q21 n22 b23 b24 n25 Kn1 k w := by kernel_rfl
theorem f88.J6_okc {Kn1 : Nat → Nat → Int → World → Prop} {k : Value → World → Prop} : okC Tryz.prog none (.seq (some (f88.J7p Kn1 k)) .none .none) (codeAt f88.body [1, 1, 0, 1, 0, 0, 1, 1, 0, 0, 1, 1, 1, 1]) (f88.Q2 Kn1 k) :=
  Eq.mpr (by kernel_rfl : okC Tryz.prog none (.seq (some (f88.J7p Kn1 k)) .none .none) (codeAt f88.body [1, 1, 0, 1, 0, 0, 1, 1, 0, 0, 1, 1, 1, 1]) (f88.Q2 Kn1 k) = (((True) ∧ OKJ Tryz.prog none (f88.J7p Kn1 k) (codeAt f88.body [1, 1, 0, 1, 0, 0, 1, 1, 0, 0, 1, 1, 1, 1, 1]) (f88.Q2 Kn1 k)))) (⟨trivial, f88.J7_ok⟩)
theorem f88.J6_ok {Kn1 : Nat → Nat → Int → World → Prop} {k : Value → World → Prop} : OKJ Tryz.prog none (f88.J6p Kn1 k) (codeAt f88.body [1, 1, 0, 1, 0, 0, 1, 1, 0, 0, 1, 1, 1, 1]) (f88.Q2 Kn1 k) := by
  intro a w h
  obtain ⟨D, us, ds, rfl, h0⟩ := PJ_out h
  obtain ⟨v, us, rfl, h1⟩ := un_out h0
  obtain ⟨q20, rfl, h2⟩ := asBox_out h1
  obtain ⟨v, us, rfl, h3⟩ := un_out h2
  obtain ⟨q21, rfl, h4⟩ := asBox_out h3
  obtain ⟨v, us, rfl, h5⟩ := un_out h4
  obtain ⟨n22, rfl, h6⟩ := asI_out h5
  obtain ⟨v, us, rfl, h7⟩ := un_out h6
  obtain ⟨b23, rfl, h8⟩ := asB_out h7
  obtain ⟨v, us, rfl, h9⟩ := un_out h8
  obtain ⟨b24, rfl, h10⟩ := asB_out h9
  obtain ⟨v, us, rfl, h11⟩ := un_out h10
  obtain ⟨n25, rfl, h12⟩ := asI_out h11
  obtain ⟨rfl, h13⟩ := nl_out h12
  obtain ⟨rfl, h14⟩ := dn_out h13
  rw [← f88.J6_den D q20 q21 n22 b23 b24 n25 Kn1 k w] at h14
  exact pc_wp Tryz.mixed f88.J6_okc h14
theorem f88.J5_den (D : Nat → Value) (q11 : Nat) (q12 : Nat) (n13 : Int) (b14 : Bool) (b15 : Bool) (n16 : Int) (Kn1 : Nat → Nat → Int → World → Prop) (k : Value → World → Prop) (w : World) : pc Tryz.prog none (.seq (some (f88.J6p Kn1 k)) .none .none) (codeAt f88.body [1, 1, 0, 1, 0, 0, 1, 1, 0, 0, 1, 1, 1]) (f88.Q2 Kn1 k) D 94 [93, 92, 91, 90, 89, 88] [.pointer (some ⟨q11, 0, none⟩), .pointer (some ⟨q12, 0, none⟩), .int .i64 n13, .bool b14, .bool b15, .int .i64 n16] [] w = f88.J5 q11 q12 n13 b14 b15 n16 Kn1 k w := by kernel_rfl
theorem f88.J5_okc {Kn1 : Nat → Nat → Int → World → Prop} {k : Value → World → Prop} : okC Tryz.prog none (.seq (some (f88.J6p Kn1 k)) .none .none) (codeAt f88.body [1, 1, 0, 1, 0, 0, 1, 1, 0, 0, 1, 1, 1]) (f88.Q2 Kn1 k) :=
  Eq.mpr (by kernel_rfl : okC Tryz.prog none (.seq (some (f88.J6p Kn1 k)) .none .none) (codeAt f88.body [1, 1, 0, 1, 0, 0, 1, 1, 0, 0, 1, 1, 1]) (f88.Q2 Kn1 k) = (((True) ∧ OKJ Tryz.prog none (f88.J6p Kn1 k) (codeAt f88.body [1, 1, 0, 1, 0, 0, 1, 1, 0, 0, 1, 1, 1, 1]) (f88.Q2 Kn1 k)))) (⟨trivial, f88.J6_ok⟩)
theorem f88.J5_ok {Kn1 : Nat → Nat → Int → World → Prop} {k : Value → World → Prop} : OKJ Tryz.prog none (f88.J5p Kn1 k) (codeAt f88.body [1, 1, 0, 1, 0, 0, 1, 1, 0, 0, 1, 1, 1]) (f88.Q2 Kn1 k) := by
  intro a w h
  obtain ⟨D, us, ds, rfl, h0⟩ := PJ_out h
  obtain ⟨v, us, rfl, h1⟩ := un_out h0
  obtain ⟨q11, rfl, h2⟩ := asBox_out h1
  obtain ⟨v, us, rfl, h3⟩ := un_out h2
  obtain ⟨q12, rfl, h4⟩ := asBox_out h3
  obtain ⟨v, us, rfl, h5⟩ := un_out h4
  obtain ⟨n13, rfl, h6⟩ := asI_out h5
  obtain ⟨v, us, rfl, h7⟩ := un_out h6
  obtain ⟨b14, rfl, h8⟩ := asB_out h7
  obtain ⟨v, us, rfl, h9⟩ := un_out h8
  obtain ⟨b15, rfl, h10⟩ := asB_out h9
  obtain ⟨v, us, rfl, h11⟩ := un_out h10
  obtain ⟨n16, rfl, h12⟩ := asI_out h11
  obtain ⟨rfl, h13⟩ := nl_out h12
  obtain ⟨rfl, h14⟩ := dn_out h13
  rw [← f88.J5_den D q11 q12 n13 b14 b15 n16 Kn1 k w] at h14
  exact pc_wp Tryz.mixed f88.J5_okc h14
theorem f88.J4_den (D : Nat → Value) (q6 : Nat) (q7 : Nat) (n8 : Int) (b9 : Bool) (n10 : Int) (Kn1 : Nat → Nat → Int → World → Prop) (k : Value → World → Prop) (w : World) : pc Tryz.prog none (.seq (some (f88.J5p Kn1 k)) .none .none) (codeAt f88.body [1, 1, 0, 1, 0, 0, 1, 1, 0, 0, 1, 1]) (f88.Q2 Kn1 k) D 94 [93, 92, 91, 90, 88] [.pointer (some ⟨q6, 0, none⟩), .pointer (some ⟨q7, 0, none⟩), .int .i64 n8, .bool b9, .int .i64 n10] [] w = f88.J4 q6 q7 n8 b9 n10 Kn1 k w := by kernel_rfl
theorem f88.J4_okc {Kn1 : Nat → Nat → Int → World → Prop} {k : Value → World → Prop} : okC Tryz.prog none (.seq (some (f88.J5p Kn1 k)) .none .none) (codeAt f88.body [1, 1, 0, 1, 0, 0, 1, 1, 0, 0, 1, 1]) (f88.Q2 Kn1 k) :=
  Eq.mpr (by kernel_rfl : okC Tryz.prog none (.seq (some (f88.J5p Kn1 k)) .none .none) (codeAt f88.body [1, 1, 0, 1, 0, 0, 1, 1, 0, 0, 1, 1]) (f88.Q2 Kn1 k) = (((True) ∧ OKJ Tryz.prog none (f88.J5p Kn1 k) (codeAt f88.body [1, 1, 0, 1, 0, 0, 1, 1, 0, 0, 1, 1, 1]) (f88.Q2 Kn1 k)))) (⟨trivial, f88.J5_ok⟩)
theorem f88.J4_ok {Kn1 : Nat → Nat → Int → World → Prop} {k : Value → World → Prop} : OKJ Tryz.prog none (f88.J4p Kn1 k) (codeAt f88.body [1, 1, 0, 1, 0, 0, 1, 1, 0, 0, 1, 1]) (f88.Q2 Kn1 k) := by
  intro a w h
  obtain ⟨D, us, ds, rfl, h0⟩ := PJ_out h
  obtain ⟨v, us, rfl, h1⟩ := un_out h0
  obtain ⟨q6, rfl, h2⟩ := asBox_out h1
  obtain ⟨v, us, rfl, h3⟩ := un_out h2
  obtain ⟨q7, rfl, h4⟩ := asBox_out h3
  obtain ⟨v, us, rfl, h5⟩ := un_out h4
  obtain ⟨n8, rfl, h6⟩ := asI_out h5
  obtain ⟨v, us, rfl, h7⟩ := un_out h6
  obtain ⟨b9, rfl, h8⟩ := asB_out h7
  obtain ⟨v, us, rfl, h9⟩ := un_out h8
  obtain ⟨n10, rfl, h10⟩ := asI_out h9
  obtain ⟨rfl, h11⟩ := nl_out h10
  obtain ⟨rfl, h12⟩ := dn_out h11
  rw [← f88.J4_den D q6 q7 n8 b9 n10 Kn1 k w] at h12
  exact pc_wp Tryz.mixed f88.J4_okc h12
theorem f88.J1_den (D : Nat → Value) (q78 : Nat) (q79 : Nat) (k : Value → World → Prop) (w : World) : pc Tryz.prog none .none (codeAt f88.body [1, 1, 1]) (f88.Q4 k) D 94 [93, 92] [.pointer (some ⟨q78, 0, none⟩), .pointer (some ⟨q79, 0, none⟩)] [] w = f88.J1 q78 q79 k w := by kernel_rfl
theorem f88.J1_okc {k : Value → World → Prop} : okC Tryz.prog none .none (codeAt f88.body [1, 1, 1]) (f88.Q4 k) :=
  Eq.mpr (by kernel_rfl : okC Tryz.prog none .none (codeAt f88.body [1, 1, 1]) (f88.Q4 k) = (True)) (trivial)
theorem f88.J1_ok {k : Value → World → Prop} : OKJ Tryz.prog none (f88.J1p k) (codeAt f88.body [1, 1, 1]) (f88.Q4 k) := by
  intro a w h
  obtain ⟨D, us, ds, rfl, h0⟩ := PJ_out h
  obtain ⟨v, us, rfl, h1⟩ := un_out h0
  obtain ⟨q78, rfl, h2⟩ := asBox_out h1
  obtain ⟨v, us, rfl, h3⟩ := un_out h2
  obtain ⟨q79, rfl, h4⟩ := asBox_out h3
  obtain ⟨rfl, h5⟩ := nl_out h4
  obtain ⟨rfl, h6⟩ := dn_out h5
  rw [← f88.J1_den D q78 q79 k w] at h6
  exact pc_wp Tryz.mixed f88.J1_okc h6
theorem f88.L2_next {q3 : Nat} {q4 : Nat} {I : Int → World → Prop} {μ : Int → World → Nat} {m : Nat} {n5 : Int} {w : World} (hI : I n5 w) (hlt : μ n5 w < m) : f88.L2K q3 q4 I μ m q3 q4 n5 w := ⟨⟨rfl, rfl⟩, hI, hlt⟩
theorem f88.L2_den (D : Nat → Value) (q3 : Nat) (q4 : Nat) (n5 : Int) (Kn1 : Nat → Nat → Int → World → Prop) (k : Value → World → Prop) (w : World) : pc Tryz.prog none (.seq none .none (.seq none .none (.seq (some (f88.J3p Kn1 k)) (.block (.seq none .none (.seq (some (f88.J4p Kn1 k)) .none .none))) .none))) (codeAt f88.body [1, 1, 0, 1, 0, 0]) (Exit.then (f88.L2k Kn1) (f88.Q1 k)) D 94 [93, 92, 88] [.pointer (some ⟨q3, 0, none⟩), .pointer (some ⟨q4, 0, none⟩), .int .i64 n5] [] w = f88.L2 q3 q4 n5 Kn1 k w := by kernel_rfl
theorem f88.L2_okc {Kn1 : Nat → Nat → Int → World → Prop} {k : Value → World → Prop} : okC Tryz.prog none (.seq none .none (.seq none .none (.seq (some (f88.J3p Kn1 k)) (.block (.seq none .none (.seq (some (f88.J4p Kn1 k)) .none .none))) .none))) (codeAt f88.body [1, 1, 0, 1, 0, 0]) (Exit.then (f88.L2k Kn1) (f88.Q1 k)) :=
  Eq.mpr (by kernel_rfl : okC Tryz.prog none (.seq none .none (.seq none .none (.seq (some (f88.J3p Kn1 k)) (.block (.seq none .none (.seq (some (f88.J4p Kn1 k)) .none .none))) .none))) (codeAt f88.body [1, 1, 0, 1, 0, 0]) (Exit.then (f88.L2k Kn1) (f88.Q1 k)) = (((True) ∧ (((True) ∧ (((((True) ∧ (((True) ∧ OKJ Tryz.prog none (f88.J4p Kn1 k) (codeAt f88.body [1, 1, 0, 1, 0, 0, 1, 1, 0, 0, 1, 1]) (f88.Q2 Kn1 k))))) ∧ OKJ Tryz.prog none (f88.J3p Kn1 k) (codeAt f88.body [1, 1, 0, 1, 0, 0, 1, 1, 1]) (f88.Q3 Kn1 k)))))))) (⟨trivial, ⟨trivial, ⟨⟨trivial, ⟨trivial, f88.J4_ok⟩⟩, f88.J3_ok⟩⟩⟩)
theorem f88.L2_ok {k : Value → World → Prop} : OKJ Tryz.prog none (f88.L2p k) (codeAt f88.body [1, 1, 0, 1, 0]) (f88.Q1 k) := by
  intro a w h
  obtain ⟨D, us, ds, rfl, h0⟩ := PJ_out h
  obtain ⟨v, us, rfl, h1⟩ := un_out h0
  obtain ⟨q3, rfl, h2⟩ := asBox_out h1
  obtain ⟨v, us, rfl, h3⟩ := un_out h2
  obtain ⟨q4, rfl, h4⟩ := asBox_out h3
  obtain ⟨v, us, rfl, h5⟩ := un_out h4
  obtain ⟨n5, rfl, h6⟩ := asI_out h5
  obtain ⟨rfl, h7⟩ := nl_out h6
  obtain ⟨rfl, h8⟩ := dn_out h7
  rw [show (codeAt f88.body [1, 1, 0, 1, 0]) = Code.loop (codeAt f88.body [1, 1, 0, 1, 0, 0]) by kernel_rfl]
  exact h8 D
theorem f88.L2_rule {q3 : Nat} {q4 : Nat} {k : Value → World → Prop} (I : Int → World → Prop) (μ : Int → World → Nat) {n5 : Int} {w : World} (h0 : I n5 w)
    (hr : ∀ (n5 : Int) (w : World), I n5 w → f88.L2 q3 q4 n5 (f88.L2K q3 q4 I μ (μ n5 w)) k w) : f88.L2lp q3 q4 n5 k w := by
  intro D0
  refine loop_ind (P := Tryz.prog) (fun m a w => ∃ n5 : Int, ∃ D : Nat → Value, a = fr D 94 [93, 92, 88] [.pointer (some ⟨q3, 0, none⟩), .pointer (some ⟨q4, 0, none⟩), .int .i64 n5] [] ∧ I n5 w ∧ μ n5 w = m) ?_ (μ n5 w) ⟨_, D0, rfl, h0, rfl⟩
  rintro m a w ⟨n5, D, rfl, hI, rfl⟩
  have h := hr n5 w hI
  rw [← f88.L2_den D q3 q4 n5 (f88.L2K q3 q4 I μ (μ n5 w)) k w] at h
  refine then_mono (pc_wp Tryz.mixed f88.L2_okc h) ?_
  clear h
  intro a w h
  obtain ⟨D, us, ds, rfl, h0⟩ := PJ_out h
  obtain ⟨v, us, rfl, h1⟩ := un_out h0
  obtain ⟨q3', rfl, h2⟩ := asBox_out h1
  obtain ⟨v, us, rfl, h3⟩ := un_out h2
  obtain ⟨q4', rfl, h4⟩ := asBox_out h3
  obtain ⟨v, us, rfl, h5⟩ := un_out h4
  obtain ⟨n5', rfl, h6⟩ := asI_out h5
  obtain ⟨rfl, h7⟩ := nl_out h6
  obtain ⟨rfl, h8⟩ := dn_out h7
  obtain ⟨⟨rfl, rfl⟩, hI, hlt⟩ := h8
  exact ⟨_, hlt, _, D, rfl, hI, rfl⟩
def f88.b (k : Value → World → Prop) (w : World) : Prop :=
  AL (.cells (Array.replicate 256 (.int .u16 0)) 117) (fun q1 w => AL (.cells (Array.replicate 256 (.int .u16 0)) 117) (fun q2 w => f88.L2lp q1 q2 0 k w) w) w
theorem f88.den (k : Value → World → Prop) (w : World) : pc Tryz.prog none (.seq none .none (.seq none .none (.seq (some (f88.J1p k)) (.seq none .none (.block (.at (f88.L2p k)))) .none))) f88.body (retQ Tryz.prog [.cell 0 117] k) (fun _ => undef) 94 [] [] [] w = f88.b k w := by kernel_rfl
theorem f88.okc {k : Value → World → Prop} : okC Tryz.prog none (.seq none .none (.seq none .none (.seq (some (f88.J1p k)) (.seq none .none (.block (.at (f88.L2p k)))) .none))) f88.body (retQ Tryz.prog [.cell 0 117] k) :=
  Eq.mpr (by kernel_rfl : okC Tryz.prog none (.seq none .none (.seq none .none (.seq (some (f88.J1p k)) (.seq none .none (.block (.at (f88.L2p k)))) .none))) f88.body (retQ Tryz.prog [.cell 0 117] k) = (((True) ∧ (((True) ∧ (((((True) ∧ (OKJ Tryz.prog none (f88.L2p k) (codeAt f88.body [1, 1, 0, 1, 0]) (f88.Q1 k)))) ∧ OKJ Tryz.prog none (f88.J1p k) (codeAt f88.body [1, 1, 1]) (f88.Q4 k)))))))) (⟨trivial, ⟨trivial, ⟨⟨trivial, f88.L2_ok⟩, f88.J1_ok⟩⟩⟩)
theorem f88.call {k : Value → World → Prop} {w : World} (h : f88.b k w) : CALL Tryz.prog 88 #[] k w :=
  calls_of_pc Tryz.mixed Tryz.func88 (by kernel_rfl : Tryz.f88.body = some f88.body) (Tryz.call88 _ _) (by kernel_rfl : #[] ++ Array.replicate (Tryz.f88.ntmps - (#[] : Array Value).size) undef = (FR (fun _ => undef) 94 [] []).toArray) (by kernel_rfl : Tryz.f88.results.toList = [.cell 0 117]) f88.okc ((f88.den k w).symm ▸ h)
end Go.Proofs.YtlefdgplobifiaaGreatDoor
