/- Printed by gen2.py: the functions' bodies over the primitives of Den, in pieces. -/
import Derived.Test.YtnaeabcaennbjaaCut
import Derived.Test.YtnaeabcaennbjaaKit
namespace Go.Proofs.Ytnaeabcaennbjaa
open Go
set_option maxRecDepth 100000
set_option linter.unusedVariables false
/-! rollcall/rollcalllaw16.awake -/
noncomputable def f6.body : Code := (Try.f6.body).getD .skip
def f6.b (k : Value → World → Prop) (w : World) : Prop :=
  CALL Try.prog 7 #[.agg #[.string ⟨#[]⟩, .string ⟨#[]⟩, .string ⟨#[]⟩, .string ⟨#[]⟩, .int .i64 0, .int .i64 0, .int .i64 0, .int .i64 0, .int .i64 0, .int .i64 0, .int .i64 0, .int .i64 0, .int .i64 2, .int .i64 1, .int .i64 9]] (fun v1 w => ∃ p2 : Option Addr, v1 = .pointer p2 ∧ CALL Try.prog 8 #[.pointer p2, .int .i64 7, .int .i64 0] (fun v3 w => v3 = .tuple #[] ∧ CALL Try.prog 9 #[.pointer p2, .int .i64 7, .int .i64 0] (fun v4 w => v4 = .tuple #[] ∧ CALL Try.prog 16 #[.pointer p2, slv (none, 0, 0), .int .i64 1] (fun v5 w => ∃ b6 : Bool, v5 = .bool b6 ∧ brK b6 (AL (.cells #[.int .i64 7, .int .i64 2] 51) (fun q7 w => CALL Try.prog 16 #[.pointer p2, slv ((some ⟨q7, 0, none⟩), 1, 1), .int .i64 2] (fun v8 w => ∃ b9 : Bool, v8 = .bool b9 ∧ brK b9 (AL (.cells #[.int .i64 7, .int .i64 3] 51) (fun q10 w => CALL Try.prog 16 #[.pointer p2, slv ((some ⟨q10, 0, none⟩), 1, 1), .int .i64 3] (fun v11 w => ∃ b12 : Bool, v11 = .bool b12 ∧ k (.bool b12) w) w) w) (k (.bool false) w)) w) w) (k (.bool false) w)) w) w) w) w
theorem f6.den (k : Value → World → Prop) (w : World) : pc Try.prog none .none f6.body (retQ Try.prog [.tmp 0] k) (fun _ => undef) 22 [] [] [] w = f6.b k w := by kernel_rfl
theorem f6.okc {k : Value → World → Prop} : okC Try.prog none .none f6.body (retQ Try.prog [.tmp 0] k) :=
  Eq.mpr (by kernel_rfl : okC Try.prog none .none f6.body (retQ Try.prog [.tmp 0] k) = (True)) (trivial)
theorem f6.call {k : Value → World → Prop} {w : World} (h : f6.b k w) : CALL Try.prog 6 #[] k w :=
  calls_of_pc Try.mixed Try.func6 (by kernel_rfl : Try.f6.body = some f6.body) (Try.call6 _ _) (by kernel_rfl : #[] ++ Array.replicate (Try.f6.ntmps - (#[] : Array Value).size) undef = (FR (fun _ => undef) 22 [] []).toArray) (by kernel_rfl : Try.f6.results.toList = [.tmp 0]) f6.okc ((f6.den k w).symm ▸ h)

/-! rollcall/pulse.New -/
noncomputable def f7.body : Code := (Try.f7.body).getD .skip
def f7.b (s1 : ByteArray) (s2 : ByteArray) (s3 : ByteArray) (s4 : ByteArray) (n5 : Int) (n6 : Int) (n7 : Int) (n8 : Int) (n9 : Int) (n10 : Int) (n11 : Int) (n12 : Int) (n13 : Int) (n14 : Int) (n15 : Int) (k : Value → World → Prop) (w : World) : Prop :=
  AL (.cells #[.string s1, .string s2, .string s3, .string s4, .int .i64 n5, .int .i64 n6, .int .i64 n7, .int .i64 n8, .int .i64 n9, .int .i64 n10, .int .i64 n11, .int .i64 n12, .int .i64 n13, .int .i64 n14, .int .i64 n15] 27) (fun q16 w => DRC (fun C w => STL C (Value.int .i64) (Addr.add ⟨q16, 0, none⟩ 12) (fun n17 => STL C (Value.int .i64) (Addr.add ⟨q16, 0, none⟩ 13) (fun n18 => STL C (Value.int .i64) (Addr.add ⟨q16, 0, none⟩ 14) (fun n19 => (AL (.map #[] 0) (fun q20 w => C w ∧ CALL Try.prog 21 #[] (fun v21 w => ∃ p22 : Option Addr, v21 = .pointer p22 ∧ C w ∧ CALL Try.prog 21 #[] (fun v23 w => ∃ p24 : Option Addr, v23 = .pointer p24 ∧ C w ∧ CALL Try.prog 21 #[] (fun v25 w => ∃ p26 : Option Addr, v25 = .pointer p26 ∧ C w ∧ AL (.cells #[.int .i64 (if (1 : Int) > n17 then 1 else n17), .int .i64 (if (1 : Int) > n18 then 1 else n18), .int .i64 (if (1 : Int) > n19 then 1 else n19), .map (some q20), .pointer p22, .pointer p24, .pointer p26] 57) (fun q27 w => k (.pointer (some ⟨q27, 0, none⟩)) w) w) w) w) w) w) ∧ (CALL Try.prog 21 #[] (fun v28 w => ∃ p29 : Option Addr, v28 = .pointer p29 ∧ C w ∧ (AL (.map #[] 0) (fun q30 w => C w ∧ CALL Try.prog 21 #[] (fun v31 w => ∃ p32 : Option Addr, v31 = .pointer p32 ∧ C w ∧ CALL Try.prog 21 #[] (fun v33 w => ∃ p34 : Option Addr, v33 = .pointer p34 ∧ C w ∧ AL (.cells #[.int .i64 (if (1 : Int) > n17 then 1 else n17), .int .i64 (if (1 : Int) > n18 then 1 else n18), .int .i64 (if (1 : Int) > n19 then 1 else n19), .map (some q30), .pointer p29, .pointer p32, .pointer p34] 57) (fun q35 w => k (.pointer (some ⟨q35, 0, none⟩)) w) w) w) w) w) ∧ (CALL Try.prog 21 #[] (fun v36 w => ∃ p37 : Option Addr, v36 = .pointer p37 ∧ C w ∧ (AL (.map #[] 0) (fun q38 w => C w ∧ CALL Try.prog 21 #[] (fun v39 w => ∃ p40 : Option Addr, v39 = .pointer p40 ∧ C w ∧ AL (.cells #[.int .i64 (if (1 : Int) > n17 then 1 else n17), .int .i64 (if (1 : Int) > n18 then 1 else n18), .int .i64 (if (1 : Int) > n19 then 1 else n19), .map (some q38), .pointer p29, .pointer p37, .pointer p40] 57) (fun q41 w => k (.pointer (some ⟨q41, 0, none⟩)) w) w) w) w) ∧ (CALL Try.prog 21 #[] (fun v42 w => ∃ p43 : Option Addr, v42 = .pointer p43 ∧ C w ∧ AL (.map #[] 0) (fun q44 w => C w ∧ AL (.cells #[.int .i64 (if (1 : Int) > n17 then 1 else n17), .int .i64 (if (1 : Int) > n18 then 1 else n18), .int .i64 (if (1 : Int) > n19 then 1 else n19), .map (some q44), .pointer p29, .pointer p37, .pointer p43] 57) (fun q45 w => k (.pointer (some ⟨q45, 0, none⟩)) w) w) w) w)) w)) w))))) w) w
theorem f7.den (s1 : ByteArray) (s2 : ByteArray) (s3 : ByteArray) (s4 : ByteArray) (n5 : Int) (n6 : Int) (n7 : Int) (n8 : Int) (n9 : Int) (n10 : Int) (n11 : Int) (n12 : Int) (n13 : Int) (n14 : Int) (n15 : Int) (k : Value → World → Prop) (w : World) : pc Try.prog none .none f7.body (retQ Try.prog [.tmp 2] k) (fun _ => undef) 18 [17] [.agg #[.string s1, .string s2, .string s3, .string s4, .int .i64 n5, .int .i64 n6, .int .i64 n7, .int .i64 n8, .int .i64 n9, .int .i64 n10, .int .i64 n11, .int .i64 n12, .int .i64 n13, .int .i64 n14, .int .i64 n15]] [] w = f7.b s1 s2 s3 s4 n5 n6 n7 n8 n9 n10 n11 n12 n13 n14 n15 k w := by kernel_rfl
theorem f7.okc {k : Value → World → Prop} : okC Try.prog none .none f7.body (retQ Try.prog [.tmp 2] k) :=
  Eq.mpr (by kernel_rfl : okC Try.prog none .none f7.body (retQ Try.prog [.tmp 2] k) = (True)) (trivial)
theorem f7.call {s1 : ByteArray} {s2 : ByteArray} {s3 : ByteArray} {s4 : ByteArray} {n5 : Int} {n6 : Int} {n7 : Int} {n8 : Int} {n9 : Int} {n10 : Int} {n11 : Int} {n12 : Int} {n13 : Int} {n14 : Int} {n15 : Int} {k : Value → World → Prop} {w : World} (h : f7.b s1 s2 s3 s4 n5 n6 n7 n8 n9 n10 n11 n12 n13 n14 n15 k w) : CALL Try.prog 7 #[.agg #[.string s1, .string s2, .string s3, .string s4, .int .i64 n5, .int .i64 n6, .int .i64 n7, .int .i64 n8, .int .i64 n9, .int .i64 n10, .int .i64 n11, .int .i64 n12, .int .i64 n13, .int .i64 n14, .int .i64 n15]] k w :=
  calls_of_pc Try.mixed Try.func7 (by kernel_rfl : Try.f7.body = some f7.body) (Try.call7 _ _) (by kernel_rfl : #[.agg #[.string s1, .string s2, .string s3, .string s4, .int .i64 n5, .int .i64 n6, .int .i64 n7, .int .i64 n8, .int .i64 n9, .int .i64 n10, .int .i64 n11, .int .i64 n12, .int .i64 n13, .int .i64 n14, .int .i64 n15]] ++ Array.replicate (Try.f7.ntmps - (#[.agg #[.string s1, .string s2, .string s3, .string s4, .int .i64 n5, .int .i64 n6, .int .i64 n7, .int .i64 n8, .int .i64 n9, .int .i64 n10, .int .i64 n11, .int .i64 n12, .int .i64 n13, .int .i64 n14, .int .i64 n15]] : Array Value).size) undef = (FR (fun _ => undef) 18 [17] [.agg #[.string s1, .string s2, .string s3, .string s4, .int .i64 n5, .int .i64 n6, .int .i64 n7, .int .i64 n8, .int .i64 n9, .int .i64 n10, .int .i64 n11, .int .i64 n12, .int .i64 n13, .int .i64 n14, .int .i64 n15]]).toArray) (by kernel_rfl : Try.f7.results.toList = [.tmp 2]) f7.okc ((f7.den s1 s2 s3 s4 n5 n6 n7 n8 n9 n10 n11 n12 n13 n14 n15 k w).symm ▸ h)

/-! (*rollcall/pulse.Pulse).Join -/
noncomputable def f8.body : Code := (Try.f8.body).getD .skip
def f8.b (p1 : Option Addr) (n2 : Int) (n3 : Int) (k : Value → World → Prop) (w : World) : Prop :=
  brK p1.isNone (k (.tuple #[]) w) (CALL Try.prog 14 #[.pointer p1, .int .i64 n2] (fun v4 w => v4 = .tuple #[] ∧ NN p1 (fun a5 => LD Value.map (Addr.add a5 3) (fun m6 w => MU m6 (.int .i64) (.int .i64 n2) (.int .i64 n3) (fun w => DR (fun w => NN p1 (fun a7 => LD Value.pointer (Addr.add a7 4) (fun p8 w => NN p1 (fun a9 => LD (Value.int .i64) (Addr.add a9 2) (fun n10 w => CALL Try.prog 22 #[.pointer p8, .int .i64 n2, .int .i64 (IntKind.wrap .i64 (n3 + n10))] (fun v11 w => v11 = .tuple #[] ∧ k (.tuple #[]) w) w) w)) w)) w) w) w)) w)
theorem f8.den (p1 : Option Addr) (n2 : Int) (n3 : Int) (k : Value → World → Prop) (w : World) : pc Try.prog none .none f8.body (retQ Try.prog [] k) (fun _ => undef) 29 [28, 27, 26] [.pointer p1, .int .i64 n2, .int .i64 n3] [] w = f8.b p1 n2 n3 k w := by kernel_rfl
theorem f8.okc {k : Value → World → Prop} : okC Try.prog none .none f8.body (retQ Try.prog [] k) :=
  Eq.mpr (by kernel_rfl : okC Try.prog none .none f8.body (retQ Try.prog [] k) = (True)) (trivial)
theorem f8.call {p1 : Option Addr} {n2 : Int} {n3 : Int} {k : Value → World → Prop} {w : World} (h : f8.b p1 n2 n3 k w) : CALL Try.prog 8 #[.pointer p1, .int .i64 n2, .int .i64 n3] k w :=
  calls_of_pc Try.mixed Try.func8 (by kernel_rfl : Try.f8.body = some f8.body) (Try.call8 _ _) (by kernel_rfl : #[.pointer p1, .int .i64 n2, .int .i64 n3] ++ Array.replicate (Try.f8.ntmps - (#[.pointer p1, .int .i64 n2, .int .i64 n3] : Array Value).size) undef = (FR (fun _ => undef) 29 [28, 27, 26] [.pointer p1, .int .i64 n2, .int .i64 n3]).toArray) (by kernel_rfl : Try.f8.results.toList = []) f8.okc ((f8.den p1 n2 n3 k w).symm ▸ h)

/-! (*rollcall/pulse.Pulse).Register -/
noncomputable def f9.body : Code := (Try.f9.body).getD .skip
def f9.b (p1 : Option Addr) (n2 : Int) (n3 : Int) (k : Value → World → Prop) (w : World) : Prop :=
  brK p1.isNone (k (.tuple #[]) w) (NN p1 (fun a4 => LD Value.map (Addr.add a4 3) (fun m5 w => LK m5 (.int .i64) (.int .i64 n2) (.int .i64 0) (fun v6 b7 w => ∃ n8 : Int, v6 = .int .i64 n8 ∧ brK (!b7) (k (.tuple #[]) w) (NN p1 (fun a9 => LD Value.pointer (Addr.add a9 4) (fun p10 w => CALL Try.prog 23 #[.pointer p10, .int .i64 n2] (fun v11 w => ∃ b12 : Bool, v11 = .bool b12 ∧ NN p1 (fun a13 => LD Value.map (Addr.add a13 3) (fun m14 w => MU m14 (.int .i64) (.int .i64 n2) (.int .i64 n3) (fun w => DR (fun w => NN p1 (fun a15 => LD Value.pointer (Addr.add a15 5) (fun p16 w => NN p1 (fun a17 => LD (Value.int .i64) (Addr.add a17 0) (fun n18 w => CALL Try.prog 22 #[.pointer p16, .int .i64 n2, .int .i64 (IntKind.wrap .i64 (n3 + n18))] (fun v19 w => v19 = .tuple #[] ∧ DR (fun w => NN p1 (fun a20 => LD Value.pointer (Addr.add a20 6) (fun p21 w => NN p1 (fun a22 => LD (Value.int .i64) (Addr.add a22 0) (fun n23 w => NN p1 (fun a24 => LD (Value.int .i64) (Addr.add a24 1) (fun n25 w => CALL Try.prog 22 #[.pointer p21, .int .i64 n2, .int .i64 (IntKind.wrap .i64 ((IntKind.wrap .i64 (n3 + n23)) + n25))] (fun v26 w => v26 = .tuple #[] ∧ k (.tuple #[]) w) w) w)) w)) w)) w) w) w)) w)) w) w) w)) w) w))) w) w))
theorem f9.den (p1 : Option Addr) (n2 : Int) (n3 : Int) (k : Value → World → Prop) (w : World) : pc Try.prog none .none f9.body (retQ Try.prog [] k) (fun _ => undef) 62 [61, 60, 59] [.pointer p1, .int .i64 n2, .int .i64 n3] [] w = f9.b p1 n2 n3 k w := by kernel_rfl
theorem f9.okc {k : Value → World → Prop} : okC Try.prog none .none f9.body (retQ Try.prog [] k) :=
  Eq.mpr (by kernel_rfl : okC Try.prog none .none f9.body (retQ Try.prog [] k) = (True)) (trivial)
theorem f9.call {p1 : Option Addr} {n2 : Int} {n3 : Int} {k : Value → World → Prop} {w : World} (h : f9.b p1 n2 n3 k w) : CALL Try.prog 9 #[.pointer p1, .int .i64 n2, .int .i64 n3] k w :=
  calls_of_pc Try.mixed Try.func9 (by kernel_rfl : Try.f9.body = some f9.body) (Try.call9 _ _) (by kernel_rfl : #[.pointer p1, .int .i64 n2, .int .i64 n3] ++ Array.replicate (Try.f9.ntmps - (#[.pointer p1, .int .i64 n2, .int .i64 n3] : Array Value).size) undef = (FR (fun _ => undef) 62 [61, 60, 59] [.pointer p1, .int .i64 n2, .int .i64 n3]).toArray) (by kernel_rfl : Try.f9.results.toList = []) f9.okc ((f9.den p1 n2 n3 k w).symm ▸ h)

/-! (*rollcall/pulse.Pulse).Line -/
noncomputable def f10.body : Code := (Try.f10.body).getD .skip
def f10.b (p1 : Option Addr) (n2 : Int) (n3 : Int) (k : Value → World → Prop) (w : World) : Prop :=
  brK p1.isNone (k (.tuple #[]) w) (NN p1 (fun a4 => LD Value.pointer (Addr.add a4 6) (fun p5 w => CALL Try.prog 24 #[.pointer p5, .int .i64 n2] (fun v6 w => ∃ n7 : Int, ∃ b8 : Bool, v6 = .tuple #[.int .i64 n7, .bool b8] ∧ brK b8 (CALL Try.prog 9 #[.pointer p1, .int .i64 n2, .int .i64 n3] (fun v9 w => v9 = .tuple #[] ∧ k (.tuple #[]) w) w) (k (.tuple #[]) w)) w) w))
theorem f10.den (p1 : Option Addr) (n2 : Int) (n3 : Int) (k : Value → World → Prop) (w : World) : pc Try.prog none .none f10.body (retQ Try.prog [] k) (fun _ => undef) 24 [23, 22, 21] [.pointer p1, .int .i64 n2, .int .i64 n3] [] w = f10.b p1 n2 n3 k w := by kernel_rfl
theorem f10.okc {k : Value → World → Prop} : okC Try.prog none .none f10.body (retQ Try.prog [] k) :=
  Eq.mpr (by kernel_rfl : okC Try.prog none .none f10.body (retQ Try.prog [] k) = (True)) (trivial)
theorem f10.call {p1 : Option Addr} {n2 : Int} {n3 : Int} {k : Value → World → Prop} {w : World} (h : f10.b p1 n2 n3 k w) : CALL Try.prog 10 #[.pointer p1, .int .i64 n2, .int .i64 n3] k w :=
  calls_of_pc Try.mixed Try.func10 (by kernel_rfl : Try.f10.body = some f10.body) (Try.call10 _ _) (by kernel_rfl : #[.pointer p1, .int .i64 n2, .int .i64 n3] ++ Array.replicate (Try.f10.ntmps - (#[.pointer p1, .int .i64 n2, .int .i64 n3] : Array Value).size) undef = (FR (fun _ => undef) 24 [23, 22, 21] [.pointer p1, .int .i64 n2, .int .i64 n3]).toArray) (by kernel_rfl : Try.f10.results.toList = []) f10.okc ((f10.den p1 n2 n3 k w).symm ▸ h)

/-! (*rollcall/pulse.Pulse).Due -/
noncomputable def f11.body : Code := (Try.f11.body).getD .skip
def f11.J5 (q58 : Nat) (k : Value → World → Prop) (ds : List Deferred) (w : World) : Prop :=
  LD Value.map ⟨q58, 0, none⟩ (fun m59 w => CALL Try.prog 29 #[.map m59] (fun v60 w => ∃ v61 : Value, v60 = v61 ∧ CALL Try.prog 28 #[v61] (fun v62 w => ∃ l63 : Sl, v62 = slv l63 ∧ AL (.cells #[slv (none, 0, 0)] 61) (fun q64 w => ST (Addr.add ⟨q64, 0, none⟩ 0) (slv l63) (fun w => closeD (fun w => k (.func (.func 30) #[] #[.pointer (some ⟨q64, 0, none⟩), .pointer (some ⟨q58, 0, none⟩)]) w) ds w) w) w) w) w) w
def f11.J5p (k : Value → World → Prop) : Act → World → Prop := PJ 63 [57] fun us ds w => un us fun v us => asBox v fun q58 => nl us (f11.J5 q58 k ds w)
def f11.Q4 (k : Value → World → Prop) : Exit → Act → World → Prop := (Exit.inBlock 4 (Exit.then (f11.J5p k) (retQ Try.prog [.tmp 4] k)))
def f11.R6rf (q50 : Nat) (q51 : Nat) (q52 : Nat) (v53 : Value) (k : Value → World → Prop) (ds : List Deferred) (w : World) : Prop := ∀ D : Nat → Value, (Code.rangeFunc (.tmp 43) #[44, 45] (codeAt f11.body [1, 1, 1, 1, 1, 0, 1, 0, 0]) (codeAt f11.body [1, 1, 1, 1, 1, 0, 1, 0, 1])).wpIn (Wd none) 0 Try.prog (f11.Q4 k) (fr D 63 [60, 59, 57, 19] [.pointer (some ⟨q50, 0, none⟩), .pointer (some ⟨q51, 0, none⟩), .pointer (some ⟨q52, 0, none⟩), v53] ds) w
def f11.J3 (q41 : Nat) (q42 : Nat) (q43 : Nat) (k : Value → World → Prop) (ds : List Deferred) (w : World) : Prop :=
  DR (fun w => LD Value.pointer ⟨q41, 0, none⟩ (fun p44 w => NN p44 (fun a45 => LD Value.pointer (Addr.add a45 6) (fun p46 w => LD (Value.int .i64) ⟨q42, 0, none⟩ (fun n47 w => CALL Try.prog 26 #[.pointer p46, .int .i64 n47] (fun v48 w => ∃ v49 : Value, v48 = v49 ∧ f11.R6rf q41 q42 q43 v49 k ds w) w) w) w)) w) w
def f11.J3p (k : Value → World → Prop) : Act → World → Prop := PJ 63 [60, 59, 57] fun us ds w => un us fun v us => asBox v fun q41 => un us fun v us => asBox v fun q42 => un us fun v us => asBox v fun q43 => nl us (f11.J3 q41 q42 q43 k ds w)
def f11.Q3 (k : Value → World → Prop) : Exit → Act → World → Prop := (Exit.inBlock 2 (Exit.then (f11.J3p k) (retQ Try.prog [.tmp 4] k)))
def f11.L4lp (q32 : Nat) (q33 : Nat) (q34 : Nat) (l35 : Sl) (n36 : Int) (ds : List Deferred) (n37 : Int) (k : Value → World → Prop) (w : World) : Prop := ∀ D : Nat → Value, (Code.loop (codeAt f11.body [1, 1, 1, 1, 0, 1, 0, 0])).wpIn (Wd none) 0 Try.prog (f11.Q3 k) (fr D 63 [60, 59, 57, 33, 32, 31] [.pointer (some ⟨q32, 0, none⟩), .pointer (some ⟨q33, 0, none⟩), .pointer (some ⟨q34, 0, none⟩), slv l35, .int .i64 n36, .int .i64 n37] ds) w
def f11.J1 (q22 : Nat) (q23 : Nat) (q24 : Nat) (k : Value → World → Prop) (ds : List Deferred) (w : World) : Prop :=
  DRC (fun C w => STL C Value.pointer ⟨q22, 0, none⟩ (fun p25 => NN p25 (fun a26 => STL C Value.pointer (Addr.add a26 5) (fun p27 => STL C (Value.int .i64) ⟨q23, 0, none⟩ (fun n28 => CALL Try.prog 27 #[.pointer p27, .int .i64 n28] (fun v29 w => ∃ l30 : Sl, v29 = slv l30 ∧ C w ∧ ∃ n31 : Int, (∀ w', C w' → (fun w => (.int .i64 ((l30.2.1 : Nat) : Int) : Value) = .int .i64 n31 ∧ w = w') w') ∧ f11.L4lp q22 q23 q24 l30 n31 ds 0 k w) w))))) w
def f11.J1p (k : Value → World → Prop) : Act → World → Prop := PJ 63 [60, 59, 57] fun us ds w => un us fun v us => asBox v fun q22 => un us fun v us => asBox v fun q23 => un us fun v us => asBox v fun q24 => nl us (f11.J1 q22 q23 q24 k ds w)
def f11.Q1 (k : Value → World → Prop) : Exit → Act → World → Prop := (Exit.inBlock 0 (Exit.then (f11.J1p k) (retQ Try.prog [.tmp 4] k)))
def f11.R2rf (q14 : Nat) (q15 : Nat) (q16 : Nat) (v17 : Value) (k : Value → World → Prop) (ds : List Deferred) (w : World) : Prop := ∀ D : Nat → Value, (Code.rangeFunc (.tmp 19) #[20, 21] (codeAt f11.body [1, 1, 1, 0, 1, 0, 0]) (codeAt f11.body [1, 1, 1, 0, 1, 0, 1])).wpIn (Wd none) 0 Try.prog (f11.Q1 k) (fr D 63 [60, 59, 57, 43] [.pointer (some ⟨q14, 0, none⟩), .pointer (some ⟨q15, 0, none⟩), .pointer (some ⟨q16, 0, none⟩), v17] ds) w
def f11.R2p (k : Value → World → Prop) : Act → World → Prop := PJ 63 [60, 59, 57, 43] fun us ds w => un us fun v us => asBox v fun q14 => un us fun v us => asBox v fun q15 => un us fun v us => asBox v fun q16 => un us fun v17 us => nl us (f11.R2rf q14 q15 q16 v17 k ds w)
def f11.Q2 (k : Value → World → Prop) : Exit → Act → World → Prop := (retQ Try.prog [.tmp 4] k)
def f11.L4k (Kn1 : Nat → Nat → Nat → Sl → Int → List Deferred → Int → World → Prop) : Act → World → Prop := PJ 63 [60, 59, 57, 33, 32, 31] fun us ds w => un us fun v us => asBox v fun q32 => un us fun v us => asBox v fun q33 => un us fun v us => asBox v fun q34 => un us fun v us => asS v fun l35 => un us fun v us => asI .i64 v fun n36 => un us fun v us => asI .i64 v fun n37 => nl us (Kn1 q32 q33 q34 l35 n36 ds n37 w)
def f11.R6p (k : Value → World → Prop) : Act → World → Prop := PJ 63 [60, 59, 57, 19] fun us ds w => un us fun v us => asBox v fun q50 => un us fun v us => asBox v fun q51 => un us fun v us => asBox v fun q52 => un us fun v53 us => nl us (f11.R6rf q50 q51 q52 v53 k ds w)
def f11.R6A (q54 : Nat) (q55 : Nat) (q56 : Nat) (v57 : Value) (k : Value → World → Prop) (ds : List Deferred) (w : World) : Prop :=
  f11.J5 q56 k ds w
def f11.Q5 (r : Option Nat) (q : Exit → World → Prop) : Exit → Act → World → Prop := (Exit.inBlock 5 (fun e _ w => q e w))
def f11.J7 (q84 : Nat) (n85 : Int) (r : Option Nat) (q : Exit → World → Prop) (w : World) : Prop :=
  LD Value.map ⟨q84, 0, none⟩ (fun m86 w => MU m86 (.int .i64) (.int .i64 n85) (.int .i64 3) (fun w => q .normal w) w) w
def f11.J7p (r : Option Nat) (q : Exit → World → Prop) : Act → World → Prop := PJ 63 [57, 53] fun us ds w => un us fun v us => asBox v fun q84 => un us fun v us => asI .i64 v fun n85 => nl us (dn ds (f11.J7 q84 n85 r q w))
def f11.R6b (q71 : Nat) (q72 : Nat) (q73 : Nat) (n74 : Int) (r : Option Nat) (q : Exit → World → Prop) (w : World) : Prop :=
  LD Value.map ⟨q73, 0, none⟩ (fun m75 w => LK m75 (.int .i64) (.int .i64 n74) (.int .i64 0) (fun v76 b77 w => ∃ n78 : Int, v76 = .int .i64 n78 ∧ brK (n78 == 2) (DR (fun w => LD Value.pointer ⟨q71, 0, none⟩ (fun p79 w => NN p79 (fun a80 => LD Value.pointer (Addr.add a80 5) (fun p81 w => LD (Value.int .i64) ⟨q72, 0, none⟩ (fun n82 w => CALL Try.prog 22 #[.pointer p81, .int .i64 n74, .int .i64 n82] (fun v83 w => v83 = .tuple #[] ∧ f11.J7 q73 n74 r q w) w) w) w)) w) w) (f11.J7 q73 n74 r q w)) w) w
def f11.R6bp (r : Option Nat) (q : Exit → World → Prop) : Act → World → Prop := PJ 63 [60, 59, 57, 53] fun us ds w => un us fun v us => asBox v fun q71 => un us fun v us => asBox v fun q72 => un us fun v us => asBox v fun q73 => un us fun v us => asI .i64 v fun n74 => nl us (dn ds (f11.R6b q71 q72 q73 n74 r q w))
def f11.R6 (q65 : Nat) (q66 : Nat) (q67 : Nat) (n69 : Int) (v70 : Value) (r : Option Nat) (G : (World → Prop) → World → Prop) (q : Exit → World → Prop) (w : World) : Prop :=
  G (fun w => f11.R6b q65 q66 q67 n69 r q w) w
def f11.R6E (q50 : Nat) (q51 : Nat) (q52 : Nat) (v53 : Value) (k : Value → World → Prop) (ds : List Deferred) (rec : LoopState → Option Code → Loop) (L : Nat) (D : Nat) (w : World) : Prop :=
  (∃ l, SatL w (own Blk L (.loop (rec .ready none)) :: l) ∧ ∀ w, SatL w (own Blk L (.loop (rec .exhausted none)) :: l) → f11.R6A q50 q51 q52 v53 k ({ target := .collected D, args := #[] } :: ds) w)
def f11.L4 (q32 : Nat) (q33 : Nat) (q34 : Nat) (l35 : Sl) (n36 : Int) (ds : List Deferred) (n37 : Int) (Kn1 : Nat → Nat → Nat → Sl → Int → List Deferred → Int → World → Prop) (k : Value → World → Prop) (w : World) : Prop :=
  brK (decide (n37 < n36)) (IX l35 n37 1 (fun a38 => LD (Value.int .i64) a38 (fun n39 w => LD Value.map ⟨q34, 0, none⟩ (fun m40 w => MU m40 (.int .i64) (.int .i64 n39) (.int .i64 2) (fun w => Kn1 q32 q33 q34 l35 n36 ds (IntKind.wrap .i64 (n37 + 1)) w) w) w) w)) (f11.J3 q32 q33 q34 k ds w)
def f11.L4p (k : Value → World → Prop) : Act → World → Prop := PJ 63 [60, 59, 57, 33, 32, 31] fun us ds w => un us fun v us => asBox v fun q32 => un us fun v us => asBox v fun q33 => un us fun v us => asBox v fun q34 => un us fun v us => asS v fun l35 => un us fun v us => asI .i64 v fun n36 => un us fun v us => asI .i64 v fun n37 => nl us (f11.L4lp q32 q33 q34 l35 n36 ds n37 k w)
def f11.L4K (q32 : Nat) (q33 : Nat) (q34 : Nat) (l35 : Sl) (n36 : Int) (ds : List Deferred) (I : Int → World → Prop) (μ : Int → World → Nat) (m : Nat) (q32' : Nat) (q33' : Nat) (q34' : Nat) (l35' : Sl) (n36' : Int) (ds' : List Deferred) (n37' : Int) (w : World) : Prop := (q32' = q32 ∧ q33' = q33 ∧ q34' = q34 ∧ l35' = l35 ∧ n36' = n36 ∧ ds' = ds) ∧ I n37' w ∧ μ n37' w < m
def f11.R2A (q18 : Nat) (q19 : Nat) (q20 : Nat) (v21 : Value) (k : Value → World → Prop) (ds : List Deferred) (w : World) : Prop :=
  f11.J1 q18 q19 q20 k ds w
def f11.R2b (q93 : Nat) (n94 : Int) (r : Option Nat) (q : Exit → World → Prop) (w : World) : Prop :=
  LD Value.map ⟨q93, 0, none⟩ (fun m95 w => MU m95 (.int .i64) (.int .i64 n94) (.int .i64 1) (fun w => q .normal w) w) w
def f11.R2bp (r : Option Nat) (q : Exit → World → Prop) : Act → World → Prop := PJ 63 [57, 56] fun us ds w => un us fun v us => asBox v fun q93 => un us fun v us => asI .i64 v fun n94 => nl us (dn ds (f11.R2b q93 n94 r q w))
def f11.R2 (q89 : Nat) (n91 : Int) (v92 : Value) (r : Option Nat) (G : (World → Prop) → World → Prop) (q : Exit → World → Prop) (w : World) : Prop :=
  G (fun w => f11.R2b q89 n91 r q w) w
def f11.R2E (q14 : Nat) (q15 : Nat) (q16 : Nat) (v17 : Value) (k : Value → World → Prop) (ds : List Deferred) (rec : LoopState → Option Code → Loop) (L : Nat) (D : Nat) (w : World) : Prop :=
  (∃ l, SatL w (own Blk L (.loop (rec .ready none)) :: l) ∧ ∀ w, SatL w (own Blk L (.loop (rec .exhausted none)) :: l) → f11.R2A q14 q15 q16 v17 k ({ target := .collected D, args := #[] } :: ds) w)
theorem f11.R2_ok {k : Value → World → Prop} : OKJ Try.prog none (f11.R2p k) (codeAt f11.body [1, 1, 1, 0, 1, 0]) (f11.Q1 k) := by
  intro a w h
  obtain ⟨D, us, ds, rfl, h0⟩ := PJ_out h
  obtain ⟨v, us, rfl, h1⟩ := un_out h0
  obtain ⟨q14, rfl, h2⟩ := asBox_out h1
  obtain ⟨v, us, rfl, h3⟩ := un_out h2
  obtain ⟨q15, rfl, h4⟩ := asBox_out h3
  obtain ⟨v, us, rfl, h5⟩ := un_out h4
  obtain ⟨q16, rfl, h6⟩ := asBox_out h5
  obtain ⟨v17, us, rfl, h7⟩ := un_out h6
  obtain ⟨rfl, h8⟩ := nl_out h7
  rw [show (codeAt f11.body [1, 1, 1, 0, 1, 0]) = (Code.rangeFunc (.tmp 19) #[20, 21] (codeAt f11.body [1, 1, 1, 0, 1, 0, 0]) (codeAt f11.body [1, 1, 1, 0, 1, 0, 1])) by kernel_rfl]
  exact h8 D
theorem f11.R6_ok {k : Value → World → Prop} : OKJ Try.prog none (f11.R6p k) (codeAt f11.body [1, 1, 1, 1, 1, 0, 1, 0]) (f11.Q4 k) := by
  intro a w h
  obtain ⟨D, us, ds, rfl, h0⟩ := PJ_out h
  obtain ⟨v, us, rfl, h1⟩ := un_out h0
  obtain ⟨q50, rfl, h2⟩ := asBox_out h1
  obtain ⟨v, us, rfl, h3⟩ := un_out h2
  obtain ⟨q51, rfl, h4⟩ := asBox_out h3
  obtain ⟨v, us, rfl, h5⟩ := un_out h4
  obtain ⟨q52, rfl, h6⟩ := asBox_out h5
  obtain ⟨v53, us, rfl, h7⟩ := un_out h6
  obtain ⟨rfl, h8⟩ := nl_out h7
  rw [show (codeAt f11.body [1, 1, 1, 1, 1, 0, 1, 0]) = (Code.rangeFunc (.tmp 43) #[44, 45] (codeAt f11.body [1, 1, 1, 1, 1, 0, 1, 0, 0]) (codeAt f11.body [1, 1, 1, 1, 1, 0, 1, 0, 1])) by kernel_rfl]
  exact h8 D
theorem f11.J5_den (D : Nat → Value) (q58 : Nat) (k : Value → World → Prop) (ds : List Deferred) (w : World) : pc Try.prog none .none (codeAt f11.body [1, 1, 1, 1, 1, 1]) (f11.Q2 k) D 63 [57] [.pointer (some ⟨q58, 0, none⟩)] ds w = f11.J5 q58 k ds w := by kernel_rfl
theorem f11.J5_okc {k : Value → World → Prop} : okC Try.prog none .none (codeAt f11.body [1, 1, 1, 1, 1, 1]) (f11.Q2 k) :=
  Eq.mpr (by kernel_rfl : okC Try.prog none .none (codeAt f11.body [1, 1, 1, 1, 1, 1]) (f11.Q2 k) = (True)) (trivial)
theorem f11.J5_ok {k : Value → World → Prop} : OKJ Try.prog none (f11.J5p k) (codeAt f11.body [1, 1, 1, 1, 1, 1]) (f11.Q2 k) := by
  intro a w h
  obtain ⟨D, us, ds, rfl, h0⟩ := PJ_out h
  obtain ⟨v, us, rfl, h1⟩ := un_out h0
  obtain ⟨q58, rfl, h2⟩ := asBox_out h1
  obtain ⟨rfl, h3⟩ := nl_out h2
  rw [← f11.J5_den D q58 k ds w] at h3
  exact pc_wp Try.mixed f11.J5_okc h3
theorem f11.R6A_den (D : Nat → Value) (q54 : Nat) (q55 : Nat) (q56 : Nat) (v57 : Value) (k : Value → World → Prop) (ds : List Deferred) (w : World) : spK (FR D 63 [60, 59, 57, 19] [.pointer (some ⟨q54, 0, none⟩), .pointer (some ⟨q55, 0, none⟩), .pointer (some ⟨q56, 0, none⟩), v57]) (fun l => (f11.Q4 k) .normal { tmps := l.toArray, defers := ds } w) = f11.R6A q54 q55 q56 v57 k ds w := by kernel_rfl
theorem f11.J7_den (D : Nat → Value) (q84 : Nat) (n85 : Int) (r : Option Nat) (q : Exit → World → Prop) (w : World) : pc Try.prog r .none (codeAt f11.body [1, 1, 1, 1, 1, 0, 1, 0, 1, 0, 1]) (f11.Q5 r q) D 63 [57, 53] [.pointer (some ⟨q84, 0, none⟩), .int .i64 n85] [] w = f11.J7 q84 n85 r q w := by kernel_rfl
theorem f11.J7_okc {r : Option Nat} {q : Exit → World → Prop} : okC Try.prog r .none (codeAt f11.body [1, 1, 1, 1, 1, 0, 1, 0, 1, 0, 1]) (f11.Q5 r q) :=
  Eq.mpr (by kernel_rfl : okC Try.prog r .none (codeAt f11.body [1, 1, 1, 1, 1, 0, 1, 0, 1, 0, 1]) (f11.Q5 r q) = (True)) (trivial)
theorem f11.J7_ok {r : Option Nat} {q : Exit → World → Prop} : OKJ Try.prog r (f11.J7p r q) (codeAt f11.body [1, 1, 1, 1, 1, 0, 1, 0, 1, 0, 1]) (f11.Q5 r q) := by
  intro a w h
  obtain ⟨D, us, ds, rfl, h0⟩ := PJ_out h
  obtain ⟨v, us, rfl, h1⟩ := un_out h0
  obtain ⟨q84, rfl, h2⟩ := asBox_out h1
  obtain ⟨v, us, rfl, h3⟩ := un_out h2
  obtain ⟨n85, rfl, h4⟩ := asI_out h3
  obtain ⟨rfl, h5⟩ := nl_out h4
  obtain ⟨rfl, h6⟩ := dn_out h5
  rw [← f11.J7_den D q84 n85 r q w] at h6
  exact pc_wp Try.mixed f11.J7_okc h6
theorem f11.R6b_den (D : Nat → Value) (q71 : Nat) (q72 : Nat) (q73 : Nat) (n74 : Int) (r : Option Nat) (q : Exit → World → Prop) (w : World) : pc Try.prog r (.block (.seq (some (f11.J7p r q)) .none .none)) (codeAt f11.body [1, 1, 1, 1, 1, 0, 1, 0, 1]) (fun e _ w => q e w) D 63 [60, 59, 57, 53] [.pointer (some ⟨q71, 0, none⟩), .pointer (some ⟨q72, 0, none⟩), .pointer (some ⟨q73, 0, none⟩), .int .i64 n74] [] w = f11.R6b q71 q72 q73 n74 r q w := by kernel_rfl
theorem f11.R6b_okc {r : Option Nat} {q : Exit → World → Prop} : okC Try.prog r (.block (.seq (some (f11.J7p r q)) .none .none)) (codeAt f11.body [1, 1, 1, 1, 1, 0, 1, 0, 1]) (fun e _ w => q e w) :=
  Eq.mpr (by kernel_rfl : okC Try.prog r (.block (.seq (some (f11.J7p r q)) .none .none)) (codeAt f11.body [1, 1, 1, 1, 1, 0, 1, 0, 1]) (fun e _ w => q e w) = (((True) ∧ OKJ Try.prog r (f11.J7p r q) (codeAt f11.body [1, 1, 1, 1, 1, 0, 1, 0, 1, 0, 1]) (f11.Q5 r q)))) (⟨trivial, f11.J7_ok⟩)
theorem f11.R6b_ok {r : Option Nat} {q : Exit → World → Prop} : OKJ Try.prog r (f11.R6bp r q) (codeAt f11.body [1, 1, 1, 1, 1, 0, 1, 0, 1]) (fun e _ w => q e w) := by
  intro a w h
  obtain ⟨D, us, ds, rfl, h0⟩ := PJ_out h
  obtain ⟨v, us, rfl, h1⟩ := un_out h0
  obtain ⟨q71, rfl, h2⟩ := asBox_out h1
  obtain ⟨v, us, rfl, h3⟩ := un_out h2
  obtain ⟨q72, rfl, h4⟩ := asBox_out h3
  obtain ⟨v, us, rfl, h5⟩ := un_out h4
  obtain ⟨q73, rfl, h6⟩ := asBox_out h5
  obtain ⟨v, us, rfl, h7⟩ := un_out h6
  obtain ⟨n74, rfl, h8⟩ := asI_out h7
  obtain ⟨rfl, h9⟩ := nl_out h8
  obtain ⟨rfl, h10⟩ := dn_out h9
  rw [← f11.R6b_den D q71 q72 q73 n74 r q w] at h10
  exact pc_wp Try.mixed f11.R6b_okc h10
theorem f11.R6_den (D : Nat → Value) (q65 : Nat) (q66 : Nat) (q67 : Nat) (v68 : Value) (n69 : Int) (v70 : Value) (r : Option Nat) (G : (World → Prop) → World → Prop) (q : Exit → World → Prop) (w : World) : spK (FR D 63 [60, 59, 57, 19, 18, 17] [.pointer (some ⟨q65, 0, none⟩), .pointer (some ⟨q66, 0, none⟩), .pointer (some ⟨q67, 0, none⟩), v68, .int .i64 n69, v70]) (fun l => den Try.prog r (codeAt f11.body [1, 1, 1, 1, 1, 0, 1, 0, 0]) (Exit.then (fun a w => G (fun w => f11.R6bp r q a w) w) (fun _ _ _ => False)) { tmps := l.toArray, defers := [] } w) = f11.R6 q65 q66 q67 n69 v70 r G q w := by kernel_rfl
theorem f11.R6_rule {q50 : Nat} {q51 : Nat} {q52 : Nat} {v53 : Value} {k : Value → World → Prop} {w : World} {l : List HProp} {gf : Nat} {first cap : Array Value} {ds : List Deferred} (hv : v53 = .func (.func gf) first cap) (hent : ∀ args w, (callFunc gf args).run Try.prog w = .ok (.enter gf args) w) (hw : SatL w l)
    (h : ∀ (rec : LoopState → Option Code → Loop) (L D : Nat) (w : World), (∀ {n69 : Int} {v70 : Value} {K : Value → World → Prop} {w : World} {l : List HProp}, SatL w (own Blk L (.loop (rec .ready none)) :: l) → f11.R6 q50 q51 q52 n69 v70 (some L) (BG L rec) (rdE L rec K) w → YLD Try.prog L #[.int .i64 n69, v70] K w) → SatL w (own Blk L (.loop (rec .ready none)) :: own Blk D (.deferred (some [])) :: l) → CALL Try.prog gf (first.toList ++ [Value.func (.yield L) #[] #[]] ++ cap.toList).toArray (fun _ w => f11.R6E q50 q51 q52 v53 k ds rec L D w) w) :
    f11.R6rf q50 q51 q52 v53 k ds w := by
  subst hv
  intro D0
  refine RF_o rfl hent hw fun fn L D w1 h1 => ?_
  refine CALL.mono (h (recO fn _ _ _ _ D) L D w1 ?_ h1) ?_
  · intro n69 v70 K w l hw h
    refine YLD_r (t := (FR D0 63 [60, 59, 57, 19, 18, 17] [.pointer (some ⟨q50, 0, none⟩), .pointer (some ⟨q51, 0, none⟩), .pointer (some ⟨q52, 0, none⟩), .func (.func gf) first cap, .int .i64 n69, v70]).toArray) hw rfl (by kernel_rfl) (round_ofP Try.mixed (f11.R6b_ok (r := some L)) ?_)
    rw [← f11.R6_den D0 q50 q51 q52 _ n69 v70, spK_eq] at h
    exact h
  · rintro _ w2 h2
    unfold f11.R6E at h2
    rcases h2 with ⟨l2, h3, h4⟩
    · exact .inl ⟨l2, h3, fun w' h5 => by have h6 := h4 w' h5; rw [← f11.R6A_den D0 q50 q51 q52 _ k ({ target := .collected D, args := #[] } :: ds), spK_eq] at h6; exact h6⟩
theorem f11.J3_den (D : Nat → Value) (q41 : Nat) (q42 : Nat) (q43 : Nat) (k : Value → World → Prop) (ds : List Deferred) (w : World) : pc Try.prog none (.seq (some (f11.J5p k)) (.seq none .none (.block (.at (f11.R6p k)))) .none) (codeAt f11.body [1, 1, 1, 1, 1]) (f11.Q2 k) D 63 [60, 59, 57] [.pointer (some ⟨q41, 0, none⟩), .pointer (some ⟨q42, 0, none⟩), .pointer (some ⟨q43, 0, none⟩)] ds w = f11.J3 q41 q42 q43 k ds w := by kernel_rfl
theorem f11.J3_okc {k : Value → World → Prop} : okC Try.prog none (.seq (some (f11.J5p k)) (.seq none .none (.block (.at (f11.R6p k)))) .none) (codeAt f11.body [1, 1, 1, 1, 1]) (f11.Q2 k) :=
  Eq.mpr (by kernel_rfl : okC Try.prog none (.seq (some (f11.J5p k)) (.seq none .none (.block (.at (f11.R6p k)))) .none) (codeAt f11.body [1, 1, 1, 1, 1]) (f11.Q2 k) = (((((True) ∧ (OKJ Try.prog none (f11.R6p k) (codeAt f11.body [1, 1, 1, 1, 1, 0, 1, 0]) (f11.Q4 k)))) ∧ OKJ Try.prog none (f11.J5p k) (codeAt f11.body [1, 1, 1, 1, 1, 1]) (f11.Q2 k)))) (⟨⟨trivial, f11.R6_ok⟩, f11.J5_ok⟩)
theorem f11.J3_ok {k : Value → World → Prop} : OKJ Try.prog none (f11.J3p k) (codeAt f11.body [1, 1, 1, 1, 1]) (f11.Q2 k) := by
  intro a w h
  obtain ⟨D, us, ds, rfl, h0⟩ := PJ_out h
  obtain ⟨v, us, rfl, h1⟩ := un_out h0
  obtain ⟨q41, rfl, h2⟩ := asBox_out h1
  obtain ⟨v, us, rfl, h3⟩ := un_out h2
  obtain ⟨q42, rfl, h4⟩ := asBox_out h3
  obtain ⟨v, us, rfl, h5⟩ := un_out h4
  obtain ⟨q43, rfl, h6⟩ := asBox_out h5
  obtain ⟨rfl, h7⟩ := nl_out h6
  rw [← f11.J3_den D q41 q42 q43 k ds w] at h7
  exact pc_wp Try.mixed f11.J3_okc h7
theorem f11.L4_next {q32 : Nat} {q33 : Nat} {q34 : Nat} {l35 : Sl} {n36 : Int} {ds : List Deferred} {I : Int → World → Prop} {μ : Int → World → Nat} {m : Nat} {n37 : Int} {w : World} (hI : I n37 w) (hlt : μ n37 w < m) : f11.L4K q32 q33 q34 l35 n36 ds I μ m q32 q33 q34 l35 n36 ds n37 w := ⟨⟨rfl, rfl, rfl, rfl, rfl, rfl⟩, hI, hlt⟩
theorem f11.L4_den (D : Nat → Value) (q32 : Nat) (q33 : Nat) (q34 : Nat) (l35 : Sl) (n36 : Int) (ds : List Deferred) (n37 : Int) (Kn1 : Nat → Nat → Nat → Sl → Int → List Deferred → Int → World → Prop) (k : Value → World → Prop) (w : World) : pc Try.prog none .none (codeAt f11.body [1, 1, 1, 1, 0, 1, 0, 0]) (Exit.then (f11.L4k Kn1) (f11.Q3 k)) D 63 [60, 59, 57, 33, 32, 31] [.pointer (some ⟨q32, 0, none⟩), .pointer (some ⟨q33, 0, none⟩), .pointer (some ⟨q34, 0, none⟩), slv l35, .int .i64 n36, .int .i64 n37] ds w = f11.L4 q32 q33 q34 l35 n36 ds n37 Kn1 k w := by kernel_rfl
theorem f11.L4_okc {Kn1 : Nat → Nat → Nat → Sl → Int → List Deferred → Int → World → Prop} {k : Value → World → Prop} : okC Try.prog none .none (codeAt f11.body [1, 1, 1, 1, 0, 1, 0, 0]) (Exit.then (f11.L4k Kn1) (f11.Q3 k)) :=
  Eq.mpr (by kernel_rfl : okC Try.prog none .none (codeAt f11.body [1, 1, 1, 1, 0, 1, 0, 0]) (Exit.then (f11.L4k Kn1) (f11.Q3 k)) = (True)) (trivial)
theorem f11.L4_ok {k : Value → World → Prop} : OKJ Try.prog none (f11.L4p k) (codeAt f11.body [1, 1, 1, 1, 0, 1, 0]) (f11.Q3 k) := by
  intro a w h
  obtain ⟨D, us, ds, rfl, h0⟩ := PJ_out h
  obtain ⟨v, us, rfl, h1⟩ := un_out h0
  obtain ⟨q32, rfl, h2⟩ := asBox_out h1
  obtain ⟨v, us, rfl, h3⟩ := un_out h2
  obtain ⟨q33, rfl, h4⟩ := asBox_out h3
  obtain ⟨v, us, rfl, h5⟩ := un_out h4
  obtain ⟨q34, rfl, h6⟩ := asBox_out h5
  obtain ⟨v, us, rfl, h7⟩ := un_out h6
  obtain ⟨l35, rfl, h8⟩ := asS_out h7
  obtain ⟨v, us, rfl, h9⟩ := un_out h8
  obtain ⟨n36, rfl, h10⟩ := asI_out h9
  obtain ⟨v, us, rfl, h11⟩ := un_out h10
  obtain ⟨n37, rfl, h12⟩ := asI_out h11
  obtain ⟨rfl, h13⟩ := nl_out h12
  rw [show (codeAt f11.body [1, 1, 1, 1, 0, 1, 0]) = Code.loop (codeAt f11.body [1, 1, 1, 1, 0, 1, 0, 0]) by kernel_rfl]
  exact h13 D
theorem f11.L4_rule {q32 : Nat} {q33 : Nat} {q34 : Nat} {l35 : Sl} {n36 : Int} {ds : List Deferred} {k : Value → World → Prop} (I : Int → World → Prop) (μ : Int → World → Nat) {n37 : Int} {w : World} (h0 : I n37 w)
    (hr : ∀ (n37 : Int) (w : World), I n37 w → f11.L4 q32 q33 q34 l35 n36 ds n37 (f11.L4K q32 q33 q34 l35 n36 ds I μ (μ n37 w)) k w) : f11.L4lp q32 q33 q34 l35 n36 ds n37 k w := by
  intro D0
  refine loop_ind (P := Try.prog) (fun m a w => ∃ n37 : Int, ∃ D : Nat → Value, a = fr D 63 [60, 59, 57, 33, 32, 31] [.pointer (some ⟨q32, 0, none⟩), .pointer (some ⟨q33, 0, none⟩), .pointer (some ⟨q34, 0, none⟩), slv l35, .int .i64 n36, .int .i64 n37] ds ∧ I n37 w ∧ μ n37 w = m) ?_ (μ n37 w) ⟨_, D0, rfl, h0, rfl⟩
  rintro m a w ⟨n37, D, rfl, hI, rfl⟩
  have h := hr n37 w hI
  rw [← f11.L4_den D q32 q33 q34 l35 n36 ds n37 (f11.L4K q32 q33 q34 l35 n36 ds I μ (μ n37 w)) k w] at h
  refine then_mono (pc_wp Try.mixed f11.L4_okc h) ?_
  clear h
  intro a w h
  obtain ⟨D, us, ds', rfl, h0⟩ := PJ_out h
  obtain ⟨v, us, rfl, h1⟩ := un_out h0
  obtain ⟨q32', rfl, h2⟩ := asBox_out h1
  obtain ⟨v, us, rfl, h3⟩ := un_out h2
  obtain ⟨q33', rfl, h4⟩ := asBox_out h3
  obtain ⟨v, us, rfl, h5⟩ := un_out h4
  obtain ⟨q34', rfl, h6⟩ := asBox_out h5
  obtain ⟨v, us, rfl, h7⟩ := un_out h6
  obtain ⟨l35', rfl, h8⟩ := asS_out h7
  obtain ⟨v, us, rfl, h9⟩ := un_out h8
  obtain ⟨n36', rfl, h10⟩ := asI_out h9
  obtain ⟨v, us, rfl, h11⟩ := un_out h10
  obtain ⟨n37', rfl, h12⟩ := asI_out h11
  obtain ⟨rfl, h13⟩ := nl_out h12
  obtain ⟨⟨rfl, rfl, rfl, rfl, rfl, rfl⟩, hI, hlt⟩ := h13
  exact ⟨_, hlt, _, D, rfl, hI, rfl⟩
theorem f11.J1_den (D : Nat → Value) (q22 : Nat) (q23 : Nat) (q24 : Nat) (k : Value → World → Prop) (ds : List Deferred) (w : World) : pc Try.prog none (.seq (some (f11.J3p k)) (.seq none .none (.block (.at (f11.L4p k)))) .none) (codeAt f11.body [1, 1, 1, 1]) (f11.Q2 k) D 63 [60, 59, 57] [.pointer (some ⟨q22, 0, none⟩), .pointer (some ⟨q23, 0, none⟩), .pointer (some ⟨q24, 0, none⟩)] ds w = f11.J1 q22 q23 q24 k ds w := by kernel_rfl
theorem f11.J1_okc {k : Value → World → Prop} : okC Try.prog none (.seq (some (f11.J3p k)) (.seq none .none (.block (.at (f11.L4p k)))) .none) (codeAt f11.body [1, 1, 1, 1]) (f11.Q2 k) :=
  Eq.mpr (by kernel_rfl : okC Try.prog none (.seq (some (f11.J3p k)) (.seq none .none (.block (.at (f11.L4p k)))) .none) (codeAt f11.body [1, 1, 1, 1]) (f11.Q2 k) = (((((True) ∧ (OKJ Try.prog none (f11.L4p k) (codeAt f11.body [1, 1, 1, 1, 0, 1, 0]) (f11.Q3 k)))) ∧ OKJ Try.prog none (f11.J3p k) (codeAt f11.body [1, 1, 1, 1, 1]) (f11.Q2 k)))) (⟨⟨trivial, f11.L4_ok⟩, f11.J3_ok⟩)
theorem f11.J1_ok {k : Value → World → Prop} : OKJ Try.prog none (f11.J1p k) (codeAt f11.body [1, 1, 1, 1]) (f11.Q2 k) := by
  intro a w h
  obtain ⟨D, us, ds, rfl, h0⟩ := PJ_out h
  obtain ⟨v, us, rfl, h1⟩ := un_out h0
  obtain ⟨q22, rfl, h2⟩ := asBox_out h1
  obtain ⟨v, us, rfl, h3⟩ := un_out h2
  obtain ⟨q23, rfl, h4⟩ := asBox_out h3
  obtain ⟨v, us, rfl, h5⟩ := un_out h4
  obtain ⟨q24, rfl, h6⟩ := asBox_out h5
  obtain ⟨rfl, h7⟩ := nl_out h6
  rw [← f11.J1_den D q22 q23 q24 k ds w] at h7
  exact pc_wp Try.mixed f11.J1_okc h7
theorem f11.R2A_den (D : Nat → Value) (q18 : Nat) (q19 : Nat) (q20 : Nat) (v21 : Value) (k : Value → World → Prop) (ds : List Deferred) (w : World) : spK (FR D 63 [60, 59, 57, 43] [.pointer (some ⟨q18, 0, none⟩), .pointer (some ⟨q19, 0, none⟩), .pointer (some ⟨q20, 0, none⟩), v21]) (fun l => (f11.Q1 k) .normal { tmps := l.toArray, defers := ds } w) = f11.R2A q18 q19 q20 v21 k ds w := by kernel_rfl
theorem f11.R2b_den (D : Nat → Value) (q93 : Nat) (n94 : Int) (r : Option Nat) (q : Exit → World → Prop) (w : World) : pc Try.prog r .none (codeAt f11.body [1, 1, 1, 0, 1, 0, 1]) (fun e _ w => q e w) D 63 [57, 56] [.pointer (some ⟨q93, 0, none⟩), .int .i64 n94] [] w = f11.R2b q93 n94 r q w := by kernel_rfl
theorem f11.R2b_okc {r : Option Nat} {q : Exit → World → Prop} : okC Try.prog r .none (codeAt f11.body [1, 1, 1, 0, 1, 0, 1]) (fun e _ w => q e w) :=
  Eq.mpr (by kernel_rfl : okC Try.prog r .none (codeAt f11.body [1, 1, 1, 0, 1, 0, 1]) (fun e _ w => q e w) = (True)) (trivial)
theorem f11.R2b_ok {r : Option Nat} {q : Exit → World → Prop} : OKJ Try.prog r (f11.R2bp r q) (codeAt f11.body [1, 1, 1, 0, 1, 0, 1]) (fun e _ w => q e w) := by
  intro a w h
  obtain ⟨D, us, ds, rfl, h0⟩ := PJ_out h
  obtain ⟨v, us, rfl, h1⟩ := un_out h0
  obtain ⟨q93, rfl, h2⟩ := asBox_out h1
  obtain ⟨v, us, rfl, h3⟩ := un_out h2
  obtain ⟨n94, rfl, h4⟩ := asI_out h3
  obtain ⟨rfl, h5⟩ := nl_out h4
  obtain ⟨rfl, h6⟩ := dn_out h5
  rw [← f11.R2b_den D q93 n94 r q w] at h6
  exact pc_wp Try.mixed f11.R2b_okc h6
theorem f11.R2_den (D : Nat → Value) (q87 : Nat) (q88 : Nat) (q89 : Nat) (v90 : Value) (n91 : Int) (v92 : Value) (r : Option Nat) (G : (World → Prop) → World → Prop) (q : Exit → World → Prop) (w : World) : spK (FR D 63 [60, 59, 57, 43, 42, 41] [.pointer (some ⟨q87, 0, none⟩), .pointer (some ⟨q88, 0, none⟩), .pointer (some ⟨q89, 0, none⟩), v90, .int .i64 n91, v92]) (fun l => den Try.prog r (codeAt f11.body [1, 1, 1, 0, 1, 0, 0]) (Exit.then (fun a w => G (fun w => f11.R2bp r q a w) w) (fun _ _ _ => False)) { tmps := l.toArray, defers := [] } w) = f11.R2 q89 n91 v92 r G q w := by kernel_rfl
theorem f11.R2_rule {q14 : Nat} {q15 : Nat} {q16 : Nat} {v17 : Value} {k : Value → World → Prop} {w : World} {l : List HProp} {gf : Nat} {first cap : Array Value} {ds : List Deferred} (hv : v17 = .func (.func gf) first cap) (hent : ∀ args w, (callFunc gf args).run Try.prog w = .ok (.enter gf args) w) (hw : SatL w l)
    (h : ∀ (rec : LoopState → Option Code → Loop) (L D : Nat) (w : World), (∀ {n91 : Int} {v92 : Value} {K : Value → World → Prop} {w : World} {l : List HProp}, SatL w (own Blk L (.loop (rec .ready none)) :: l) → f11.R2 q16 n91 v92 (some L) (BG L rec) (rdE L rec K) w → YLD Try.prog L #[.int .i64 n91, v92] K w) → SatL w (own Blk L (.loop (rec .ready none)) :: own Blk D (.deferred (some [])) :: l) → CALL Try.prog gf (first.toList ++ [Value.func (.yield L) #[] #[]] ++ cap.toList).toArray (fun _ w => f11.R2E q14 q15 q16 v17 k ds rec L D w) w) :
    f11.R2rf q14 q15 q16 v17 k ds w := by
  subst hv
  intro D0
  refine RF_o rfl hent hw fun fn L D w1 h1 => ?_
  refine CALL.mono (h (recO fn _ _ _ _ D) L D w1 ?_ h1) ?_
  · intro n91 v92 K w l hw h
    refine YLD_r (t := (FR D0 63 [60, 59, 57, 43, 42, 41] [.pointer (some ⟨q14, 0, none⟩), .pointer (some ⟨q15, 0, none⟩), .pointer (some ⟨q16, 0, none⟩), .func (.func gf) first cap, .int .i64 n91, v92]).toArray) hw rfl (by kernel_rfl) (round_ofP Try.mixed (f11.R2b_ok (r := some L)) ?_)
    rw [← f11.R2_den D0 q14 q15 q16 _ n91 v92, spK_eq] at h
    exact h
  · rintro _ w2 h2
    unfold f11.R2E at h2
    rcases h2 with ⟨l2, h3, h4⟩
    · exact .inl ⟨l2, h3, fun w' h5 => by have h6 := h4 w' h5; rw [← f11.R2A_den D0 q14 q15 q16 _ k ({ target := .collected D, args := #[] } :: ds), spK_eq] at h6; exact h6⟩
def f11.b (p1 : Option Addr) (n2 : Int) (k : Value → World → Prop) (w : World) : Prop :=
  AL (.cells #[.pointer p1] 24) (fun q3 w => AL (.cells #[.int .i64 n2] 3) (fun q4 w => LD Value.pointer ⟨q3, 0, none⟩ (fun p5 w => brK p5.isNone (k (.func (.func 25) #[] #[]) w) (AL (.map #[] 0) (fun q6 w => AL (.cells #[.map none] 53) (fun q7 w => ST (Addr.add ⟨q7, 0, none⟩ 0) (.map (some q6)) (fun w => DR (fun w => LD Value.pointer ⟨q3, 0, none⟩ (fun p8 w => NN p8 (fun a9 => LD Value.pointer (Addr.add a9 4) (fun p10 w => LD (Value.int .i64) ⟨q4, 0, none⟩ (fun n11 w => CALL Try.prog 26 #[.pointer p10, .int .i64 n11] (fun v12 w => ∃ v13 : Value, v12 = v13 ∧ f11.R2rf q3 q4 q7 v13 k [] w) w) w) w)) w) w) w) w) w)) w) w) w
theorem f11.den (p1 : Option Addr) (n2 : Int) (k : Value → World → Prop) (w : World) : pc Try.prog none (.seq none .none (.seq none .none (.seq none .none (.seq (some (f11.J1p k)) (.seq none .none (.block (.at (f11.R2p k)))) .none)))) f11.body (retQ Try.prog [.tmp 4] k) (fun _ => undef) 63 [62, 61] [.pointer p1, .int .i64 n2] [] w = f11.b p1 n2 k w := by kernel_rfl
theorem f11.okc {k : Value → World → Prop} : okC Try.prog none (.seq none .none (.seq none .none (.seq none .none (.seq (some (f11.J1p k)) (.seq none .none (.block (.at (f11.R2p k)))) .none)))) f11.body (retQ Try.prog [.tmp 4] k) :=
  Eq.mpr (by kernel_rfl : okC Try.prog none (.seq none .none (.seq none .none (.seq none .none (.seq (some (f11.J1p k)) (.seq none .none (.block (.at (f11.R2p k)))) .none)))) f11.body (retQ Try.prog [.tmp 4] k) = (((True) ∧ (((True) ∧ (((True) ∧ (((((True) ∧ (OKJ Try.prog none (f11.R2p k) (codeAt f11.body [1, 1, 1, 0, 1, 0]) (f11.Q1 k)))) ∧ OKJ Try.prog none (f11.J1p k) (codeAt f11.body [1, 1, 1, 1]) (f11.Q2 k)))))))))) (⟨trivial, ⟨trivial, ⟨trivial, ⟨⟨trivial, f11.R2_ok⟩, f11.J1_ok⟩⟩⟩⟩)
theorem f11.call {p1 : Option Addr} {n2 : Int} {k : Value → World → Prop} {w : World} (h : f11.b p1 n2 k w) : CALL Try.prog 11 #[.pointer p1, .int .i64 n2] k w :=
  calls_of_pc Try.mixed Try.func11 (by kernel_rfl : Try.f11.body = some f11.body) (Try.call11 _ _) (by kernel_rfl : #[.pointer p1, .int .i64 n2] ++ Array.replicate (Try.f11.ntmps - (#[.pointer p1, .int .i64 n2] : Array Value).size) undef = (FR (fun _ => undef) 63 [62, 61] [.pointer p1, .int .i64 n2]).toArray) (by kernel_rfl : Try.f11.results.toList = [.tmp 4]) f11.okc ((f11.den p1 n2 k w).symm ▸ h)

/-! (*rollcall/rollcallref16.Pulse).Register -/
noncomputable def f12.body : Code := (Try.f12.body).getD .skip
def f12.b (p1 : Option Addr) (n2 : Int) (n3 : Int) (k : Value → World → Prop) (w : World) : Prop :=
  CALL Try.prog 20 #[.pointer p1, .int .i64 n2] (fun v4 w => ∃ n5 : Int, v4 = .int .i64 n5 ∧ brK (decide ((0 : Int) ≤ n5)) (NN p1 (fun a6 => LD slv (Addr.add a6 3) (fun l7 w => IX l7 n5 4 (fun a8 => ST (Addr.add a8 0) (.int .i64 n2) (fun w => ST (Addr.add a8 1) (.int .i64 n3) (fun w => ST (Addr.add a8 2) (.bool true) (fun w => ST (Addr.add a8 3) (.bool false) (fun w => k (.tuple #[]) w) w) w) w) w)) w)) (k (.tuple #[]) w)) w
theorem f12.den (p1 : Option Addr) (n2 : Int) (n3 : Int) (k : Value → World → Prop) (w : World) : pc Try.prog none .none f12.body (retQ Try.prog [] k) (fun _ => undef) 21 [20, 19, 18] [.pointer p1, .int .i64 n2, .int .i64 n3] [] w = f12.b p1 n2 n3 k w := by kernel_rfl
theorem f12.okc {k : Value → World → Prop} : okC Try.prog none .none f12.body (retQ Try.prog [] k) :=
  Eq.mpr (by kernel_rfl : okC Try.prog none .none f12.body (retQ Try.prog [] k) = (True)) (trivial)
theorem f12.call {p1 : Option Addr} {n2 : Int} {n3 : Int} {k : Value → World → Prop} {w : World} (h : f12.b p1 n2 n3 k w) : CALL Try.prog 12 #[.pointer p1, .int .i64 n2, .int .i64 n3] k w :=
  calls_of_pc Try.mixed Try.func12 (by kernel_rfl : Try.f12.body = some f12.body) (Try.call12 _ _) (by kernel_rfl : #[.pointer p1, .int .i64 n2, .int .i64 n3] ++ Array.replicate (Try.f12.ntmps - (#[.pointer p1, .int .i64 n2, .int .i64 n3] : Array Value).size) undef = (FR (fun _ => undef) 21 [20, 19, 18] [.pointer p1, .int .i64 n2, .int .i64 n3]).toArray) (by kernel_rfl : Try.f12.results.toList = []) f12.okc ((f12.den p1 n2 n3 k w).symm ▸ h)

/-! (*rollcall/rollcallref16.Pulse).Line -/
noncomputable def f13.body : Code := (Try.f13.body).getD .skip
def f13.b (p1 : Option Addr) (n2 : Int) (n3 : Int) (k : Value → World → Prop) (w : World) : Prop :=
  CALL Try.prog 20 #[.pointer p1, .int .i64 n2] (fun v4 w => ∃ n5 : Int, v4 = .int .i64 n5 ∧ brK (decide ((0 : Int) ≤ n5)) (NN p1 (fun a6 => LD slv (Addr.add a6 3) (fun l7 w => IX l7 n5 4 (fun a8 => LD Value.bool (Addr.add a8 2) (fun b9 w => brK b9 (NN p1 (fun a10 => LD slv (Addr.add a10 3) (fun l11 w => IX l11 n5 4 (fun a12 => ST (Addr.add a12 0) (.int .i64 n2) (fun w => ST (Addr.add a12 1) (.int .i64 n3) (fun w => ST (Addr.add a12 2) (.bool true) (fun w => ST (Addr.add a12 3) (.bool false) (fun w => k (.tuple #[]) w) w) w) w) w)) w)) (k (.tuple #[]) w)) w)) w)) (k (.tuple #[]) w)) w
theorem f13.den (p1 : Option Addr) (n2 : Int) (n3 : Int) (k : Value → World → Prop) (w : World) : pc Try.prog none .none f13.body (retQ Try.prog [] k) (fun _ => undef) 31 [30, 29, 28] [.pointer p1, .int .i64 n2, .int .i64 n3] [] w = f13.b p1 n2 n3 k w := by kernel_rfl
theorem f13.okc {k : Value → World → Prop} : okC Try.prog none .none f13.body (retQ Try.prog [] k) :=
  Eq.mpr (by kernel_rfl : okC Try.prog none .none f13.body (retQ Try.prog [] k) = (True)) (trivial)
theorem f13.call {p1 : Option Addr} {n2 : Int} {n3 : Int} {k : Value → World → Prop} {w : World} (h : f13.b p1 n2 n3 k w) : CALL Try.prog 13 #[.pointer p1, .int .i64 n2, .int .i64 n3] k w :=
  calls_of_pc Try.mixed Try.func13 (by kernel_rfl : Try.f13.body = some f13.body) (Try.call13 _ _) (by kernel_rfl : #[.pointer p1, .int .i64 n2, .int .i64 n3] ++ Array.replicate (Try.f13.ntmps - (#[.pointer p1, .int .i64 n2, .int .i64 n3] : Array Value).size) undef = (FR (fun _ => undef) 31 [30, 29, 28] [.pointer p1, .int .i64 n2, .int .i64 n3]).toArray) (by kernel_rfl : Try.f13.results.toList = []) f13.okc ((f13.den p1 n2 n3 k w).symm ▸ h)

/-! (*rollcall/pulse.Pulse).Leave -/
noncomputable def f14.body : Code := (Try.f14.body).getD .skip
def f14.b (p1 : Option Addr) (n2 : Int) (k : Value → World → Prop) (w : World) : Prop :=
  brK p1.isNone (k (.tuple #[]) w) (NN p1 (fun a3 => LD Value.map (Addr.add a3 3) (fun m4 w => MD m4 (.int .i64) (.int .i64 n2) (fun w => NN p1 (fun a5 => LD Value.pointer (Addr.add a5 4) (fun p6 w => CALL Try.prog 23 #[.pointer p6, .int .i64 n2] (fun v7 w => ∃ b8 : Bool, v7 = .bool b8 ∧ NN p1 (fun a9 => LD Value.pointer (Addr.add a9 5) (fun p10 w => CALL Try.prog 23 #[.pointer p10, .int .i64 n2] (fun v11 w => ∃ b12 : Bool, v11 = .bool b12 ∧ NN p1 (fun a13 => LD Value.pointer (Addr.add a13 6) (fun p14 w => CALL Try.prog 23 #[.pointer p14, .int .i64 n2] (fun v15 w => ∃ b16 : Bool, v15 = .bool b16 ∧ k (.tuple #[]) w) w) w)) w) w)) w) w)) w) w))
theorem f14.den (p1 : Option Addr) (n2 : Int) (k : Value → World → Prop) (w : World) : pc Try.prog none .none f14.body (retQ Try.prog [] k) (fun _ => undef) 29 [28, 27] [.pointer p1, .int .i64 n2] [] w = f14.b p1 n2 k w := by kernel_rfl
theorem f14.okc {k : Value → World → Prop} : okC Try.prog none .none f14.body (retQ Try.prog [] k) :=
  Eq.mpr (by kernel_rfl : okC Try.prog none .none f14.body (retQ Try.prog [] k) = (True)) (trivial)
theorem f14.call {p1 : Option Addr} {n2 : Int} {k : Value → World → Prop} {w : World} (h : f14.b p1 n2 k w) : CALL Try.prog 14 #[.pointer p1, .int .i64 n2] k w :=
  calls_of_pc Try.mixed Try.func14 (by kernel_rfl : Try.f14.body = some f14.body) (Try.call14 _ _) (by kernel_rfl : #[.pointer p1, .int .i64 n2] ++ Array.replicate (Try.f14.ntmps - (#[.pointer p1, .int .i64 n2] : Array Value).size) undef = (FR (fun _ => undef) 29 [28, 27] [.pointer p1, .int .i64 n2]).toArray) (by kernel_rfl : Try.f14.results.toList = []) f14.okc ((f14.den p1 n2 k w).symm ▸ h)

/-! (*rollcall/rollcallref16.Pulse).Leave -/
noncomputable def f15.body : Code := (Try.f15.body).getD .skip
def f15.b (p1 : Option Addr) (n2 : Int) (k : Value → World → Prop) (w : World) : Prop :=
  CALL Try.prog 20 #[.pointer p1, .int .i64 n2] (fun v3 w => ∃ n4 : Int, v3 = .int .i64 n4 ∧ brK (decide ((0 : Int) ≤ n4)) (DRC (fun C w => NN p1 (fun a5 => STL C slv (Addr.add a5 3) (fun l6 => RQ (0 ≤ (n4 : Int) ∧ (n4 : Int) ≤ ((l6.2.2 : Nat) : Int)) (NN p1 (fun a7 => STL C slv (Addr.add a7 3) (fun l8 => RQ (0 ≤ (IntKind.wrap .i64 (n4 + 1) : Int) ∧ (IntKind.wrap .i64 (n4 + 1) : Int) ≤ ((l8.2.1 : Nat) : Int)) (AL (.cells #[] 48) (fun q9 w => C w ∧ APP 48 4 24 #[.int .i64 0, .int .i64 0, .bool false, .bool false] ((some ⟨q9, 0, none⟩), 0, 0) ((slSub l6 0 ((n4 : Int).toNat) 4).2.1) (fun w => cellsOfS w (slSub l6 0 ((n4 : Int).toNat) 4) (((slSub l6 0 ((n4 : Int).toNat) 4).2.1) * 4)) (fun l10 w => C w ∧ APP 48 4 24 #[.int .i64 0, .int .i64 0, .bool false, .bool false] l10 ((slSub l8 ((IntKind.wrap .i64 (n4 + 1) : Int).toNat) l8.2.1 4).2.1) (fun w => cellsOfS w (slSub l8 ((IntKind.wrap .i64 (n4 + 1) : Int).toNat) l8.2.1 4) (((slSub l8 ((IntKind.wrap .i64 (n4 + 1) : Int).toNat) l8.2.1 4).2.1) * 4)) (fun l11 w => NN p1 (fun a12 => ST (Addr.add (Addr.add a12 3) 0) (slv l11) (fun w => k (.tuple #[]) w) w)) w) w) w))))))) w) (k (.tuple #[]) w)) w
theorem f15.den (p1 : Option Addr) (n2 : Int) (k : Value → World → Prop) (w : World) : pc Try.prog none .none f15.body (retQ Try.prog [] k) (fun _ => undef) 29 [28, 27] [.pointer p1, .int .i64 n2] [] w = f15.b p1 n2 k w := by kernel_rfl
theorem f15.okc {k : Value → World → Prop} : okC Try.prog none .none f15.body (retQ Try.prog [] k) :=
  Eq.mpr (by kernel_rfl : okC Try.prog none .none f15.body (retQ Try.prog [] k) = (True)) (trivial)
theorem f15.call {p1 : Option Addr} {n2 : Int} {k : Value → World → Prop} {w : World} (h : f15.b p1 n2 k w) : CALL Try.prog 15 #[.pointer p1, .int .i64 n2] k w :=
  calls_of_pc Try.mixed Try.func15 (by kernel_rfl : Try.f15.body = some f15.body) (Try.call15 _ _) (by kernel_rfl : #[.pointer p1, .int .i64 n2] ++ Array.replicate (Try.f15.ntmps - (#[.pointer p1, .int .i64 n2] : Array Value).size) undef = (FR (fun _ => undef) 29 [28, 27] [.pointer p1, .int .i64 n2]).toArray) (by kernel_rfl : Try.f15.results.toList = []) f15.okc ((f15.den p1 n2 k w).symm ▸ h)

/-! rollcall/rollcalllaw16.same -/
noncomputable def f16.body : Code := (Try.f16.body).getD .skip
def f16.J1 (q22 : Nat) (q23 : Nat) (q24 : Nat) (q25 : Nat) (k : Value → World → Prop) (ds : List Deferred) (w : World) : Prop :=
  LD Value.bool ⟨q25, 0, none⟩ (fun b26 w => brK b26 (LD (Value.int .i64) ⟨q24, 0, none⟩ (fun n27 w => LD slv ⟨q22, 0, none⟩ (fun l28 w => ST (Addr.add ⟨q23, 0, none⟩ 0) (.bool (n27 == ((l28.2.1 : Nat) : Int))) (fun w => closeD (fun w => LD Value.bool ⟨q23, 0, none⟩ (fun b29 w => k (.bool b29) w) w) ds w) w) w) w) (ST (Addr.add ⟨q23, 0, none⟩ 0) (.bool false) (fun w => closeD (fun w => LD Value.bool ⟨q23, 0, none⟩ (fun b30 w => k (.bool b30) w) w) ds w) w)) w
def f16.J1p (k : Value → World → Prop) : Act → World → Prop := PJ 52 [47, 45, 44, 43] fun us ds w => un us fun v us => asBox v fun q22 => un us fun v us => asBox v fun q23 => un us fun v us => asBox v fun q24 => un us fun v us => asBox v fun q25 => nl us (f16.J1 q22 q23 q24 q25 k ds w)
def f16.Q1 (k : Value → World → Prop) : Exit → Act → World → Prop := (Exit.inBlock 0 (Exit.then (f16.J1p k) (retQ Try.prog [.cell 6 4] k)))
def f16.R2rf (q12 : Nat) (q13 : Nat) (q14 : Nat) (q15 : Nat) (v16 : Value) (k : Value → World → Prop) (ds : List Deferred) (w : World) : Prop := ∀ D : Nat → Value, (Code.rangeFunc (.tmp 17) #[18, 19] (codeAt f16.body [1, 1, 1, 1, 1, 0, 1, 0, 0]) (codeAt f16.body [1, 1, 1, 1, 1, 0, 1, 0, 1])).wpIn (Wd none) 0 Try.prog (f16.Q1 k) (fr D 52 [47, 45, 44, 43, 34] [.pointer (some ⟨q12, 0, none⟩), .pointer (some ⟨q13, 0, none⟩), .pointer (some ⟨q14, 0, none⟩), .pointer (some ⟨q15, 0, none⟩), v16] ds) w
def f16.R2p (k : Value → World → Prop) : Act → World → Prop := PJ 52 [47, 45, 44, 43, 34] fun us ds w => un us fun v us => asBox v fun q12 => un us fun v us => asBox v fun q13 => un us fun v us => asBox v fun q14 => un us fun v us => asBox v fun q15 => un us fun v16 us => nl us (f16.R2rf q12 q13 q14 q15 v16 k ds w)
def f16.Q2 (k : Value → World → Prop) : Exit → Act → World → Prop := (retQ Try.prog [.cell 6 4] k)
def f16.R2A (q17 : Nat) (q18 : Nat) (q19 : Nat) (q20 : Nat) (v21 : Value) (k : Value → World → Prop) (ds : List Deferred) (w : World) : Prop :=
  f16.J1 q17 q18 q19 q20 k ds w
def f16.R2Aret (q31 : Nat) (q32 : Nat) (q33 : Nat) (q34 : Nat) (v35 : Value) (k : Value → World → Prop) (ds : List Deferred) (w : World) : Prop :=
  closeD (fun w => LD Value.bool ⟨q32, 0, none⟩ (fun b36 w => k (.bool b36) w) w) ds w
def f16.R2b (q44 : Nat) (q45 : Nat) (q46 : Nat) (q47 : Nat) (n48 : Int) (n49 : Int) (r : Option Nat) (q : Exit → World → Prop) (w : World) : Prop :=
  LD (Value.int .i64) ⟨q46, 0, none⟩ (fun n50 w => LD slv ⟨q44, 0, none⟩ (fun l51 w => brK (decide (((l51.2.1 : Nat) : Int) ≤ n50)) (ST (Addr.add ⟨q45, 0, none⟩ 0) (.bool false) (fun w => q .ret w) w) (LD Value.bool ⟨q47, 0, none⟩ (fun b52 w => brK b52 (LD slv ⟨q44, 0, none⟩ (fun l53 w => LD (Value.int .i64) ⟨q46, 0, none⟩ (fun n54 w => IX l53 n54 2 (fun a55 => LD (Value.int .i64) (Addr.add a55 0) (fun n56 w => brK (n48 == n56) (LD slv ⟨q44, 0, none⟩ (fun l57 w => LD (Value.int .i64) ⟨q46, 0, none⟩ (fun n58 w => IX l57 n58 2 (fun a59 => LD (Value.int .i64) (Addr.add a59 1) (fun n60 w => ST (Addr.add ⟨q47, 0, none⟩ 0) (.bool (n49 == n60)) (fun w => LD (Value.int .i64) ⟨q46, 0, none⟩ (fun n61 w => ST (Addr.add ⟨q46, 0, none⟩ 0) (.int .i64 (IntKind.wrap .i64 (n61 + 1))) (fun w => q .normal w) w) w) w) w)) w) w) (ST (Addr.add ⟨q47, 0, none⟩ 0) (.bool false) (fun w => LD (Value.int .i64) ⟨q46, 0, none⟩ (fun n62 w => ST (Addr.add ⟨q46, 0, none⟩ 0) (.int .i64 (IntKind.wrap .i64 (n62 + 1))) (fun w => q .normal w) w) w) w)) w)) w) w) (ST (Addr.add ⟨q47, 0, none⟩ 0) (.bool false) (fun w => LD (Value.int .i64) ⟨q46, 0, none⟩ (fun n63 w => ST (Addr.add ⟨q46, 0, none⟩ 0) (.int .i64 (IntKind.wrap .i64 (n63 + 1))) (fun w => q .normal w) w) w) w)) w)) w) w
def f16.R2bp (r : Option Nat) (q : Exit → World → Prop) : Act → World → Prop := PJ 52 [47, 45, 44, 43, 41, 40] fun us ds w => un us fun v us => asBox v fun q44 => un us fun v us => asBox v fun q45 => un us fun v us => asBox v fun q46 => un us fun v us => asBox v fun q47 => un us fun v us => asI .i64 v fun n48 => un us fun v us => asI .i64 v fun n49 => nl us (dn ds (f16.R2b q44 q45 q46 q47 n48 n49 r q w))
def f16.R2 (q37 : Nat) (q38 : Nat) (q39 : Nat) (q40 : Nat) (n42 : Int) (n43 : Int) (r : Option Nat) (G : (World → Prop) → World → Prop) (q : Exit → World → Prop) (w : World) : Prop :=
  G (fun w => f16.R2b q37 q38 q39 q40 n42 n43 r q w) w
def f16.R2E (q12 : Nat) (q13 : Nat) (q14 : Nat) (q15 : Nat) (v16 : Value) (k : Value → World → Prop) (ds : List Deferred) (rec : LoopState → Option Code → Loop) (L : Nat) (D : Nat) (w : World) : Prop :=
  (∃ l, SatL w (own Blk L (.loop (rec .ready none)) :: l) ∧ ∀ w, SatL w (own Blk L (.loop (rec .exhausted none)) :: l) → f16.R2A q12 q13 q14 q15 v16 k ({ target := .collected D, args := #[] } :: ds) w) ∨ (∃ l, SatL w (own Blk L (.loop (rec .done (some .ret))) :: l) ∧ ∀ w, SatL w (own Blk L (.loop (rec .exhausted (some .ret))) :: l) → f16.R2Aret q12 q13 q14 q15 v16 k ({ target := .collected D, args := #[] } :: ds) w)
theorem f16.R2_ok {k : Value → World → Prop} : OKJ Try.prog none (f16.R2p k) (codeAt f16.body [1, 1, 1, 1, 1, 0, 1, 0]) (f16.Q1 k) := by
  intro a w h
  obtain ⟨D, us, ds, rfl, h0⟩ := PJ_out h
  obtain ⟨v, us, rfl, h1⟩ := un_out h0
  obtain ⟨q12, rfl, h2⟩ := asBox_out h1
  obtain ⟨v, us, rfl, h3⟩ := un_out h2
  obtain ⟨q13, rfl, h4⟩ := asBox_out h3
  obtain ⟨v, us, rfl, h5⟩ := un_out h4
  obtain ⟨q14, rfl, h6⟩ := asBox_out h5
  obtain ⟨v, us, rfl, h7⟩ := un_out h6
  obtain ⟨q15, rfl, h8⟩ := asBox_out h7
  obtain ⟨v16, us, rfl, h9⟩ := un_out h8
  obtain ⟨rfl, h10⟩ := nl_out h9
  rw [show (codeAt f16.body [1, 1, 1, 1, 1, 0, 1, 0]) = (Code.rangeFunc (.tmp 17) #[18, 19] (codeAt f16.body [1, 1, 1, 1, 1, 0, 1, 0, 0]) (codeAt f16.body [1, 1, 1, 1, 1, 0, 1, 0, 1])) by kernel_rfl]
  exact h10 D
theorem f16.J1_den (D : Nat → Value) (q22 : Nat) (q23 : Nat) (q24 : Nat) (q25 : Nat) (k : Value → World → Prop) (ds : List Deferred) (w : World) : pc Try.prog none .none (codeAt f16.body [1, 1, 1, 1, 1, 1]) (f16.Q2 k) D 52 [47, 45, 44, 43] [.pointer (some ⟨q22, 0, none⟩), .pointer (some ⟨q23, 0, none⟩), .pointer (some ⟨q24, 0, none⟩), .pointer (some ⟨q25, 0, none⟩)] ds w = f16.J1 q22 q23 q24 q25 k ds w := by kernel_rfl
theorem f16.J1_okc {k : Value → World → Prop} : okC Try.prog none .none (codeAt f16.body [1, 1, 1, 1, 1, 1]) (f16.Q2 k) :=
  Eq.mpr (by kernel_rfl : okC Try.prog none .none (codeAt f16.body [1, 1, 1, 1, 1, 1]) (f16.Q2 k) = (True)) (trivial)
theorem f16.J1_ok {k : Value → World → Prop} : OKJ Try.prog none (f16.J1p k) (codeAt f16.body [1, 1, 1, 1, 1, 1]) (f16.Q2 k) := by
  intro a w h
  obtain ⟨D, us, ds, rfl, h0⟩ := PJ_out h
  obtain ⟨v, us, rfl, h1⟩ := un_out h0
  obtain ⟨q22, rfl, h2⟩ := asBox_out h1
  obtain ⟨v, us, rfl, h3⟩ := un_out h2
  obtain ⟨q23, rfl, h4⟩ := asBox_out h3
  obtain ⟨v, us, rfl, h5⟩ := un_out h4
  obtain ⟨q24, rfl, h6⟩ := asBox_out h5
  obtain ⟨v, us, rfl, h7⟩ := un_out h6
  obtain ⟨q25, rfl, h8⟩ := asBox_out h7
  obtain ⟨rfl, h9⟩ := nl_out h8
  rw [← f16.J1_den D q22 q23 q24 q25 k ds w] at h9
  exact pc_wp Try.mixed f16.J1_okc h9
theorem f16.R2A_den (D : Nat → Value) (q17 : Nat) (q18 : Nat) (q19 : Nat) (q20 : Nat) (v21 : Value) (k : Value → World → Prop) (ds : List Deferred) (w : World) : spK (FR D 52 [47, 45, 44, 43, 34] [.pointer (some ⟨q17, 0, none⟩), .pointer (some ⟨q18, 0, none⟩), .pointer (some ⟨q19, 0, none⟩), .pointer (some ⟨q20, 0, none⟩), v21]) (fun l => (f16.Q1 k) .normal { tmps := l.toArray, defers := ds } w) = f16.R2A q17 q18 q19 q20 v21 k ds w := by kernel_rfl
theorem f16.R2Aret_den (D : Nat → Value) (q31 : Nat) (q32 : Nat) (q33 : Nat) (q34 : Nat) (v35 : Value) (k : Value → World → Prop) (ds : List Deferred) (w : World) : spK (FR D 52 [47, 45, 44, 43, 34] [.pointer (some ⟨q31, 0, none⟩), .pointer (some ⟨q32, 0, none⟩), .pointer (some ⟨q33, 0, none⟩), .pointer (some ⟨q34, 0, none⟩), v35]) (fun l => (f16.Q1 k) .ret { tmps := l.toArray, defers := ds } w) = f16.R2Aret q31 q32 q33 q34 v35 k ds w := by kernel_rfl
theorem f16.R2b_den (D : Nat → Value) (q44 : Nat) (q45 : Nat) (q46 : Nat) (q47 : Nat) (n48 : Int) (n49 : Int) (r : Option Nat) (q : Exit → World → Prop) (w : World) : pc Try.prog r .none (codeAt f16.body [1, 1, 1, 1, 1, 0, 1, 0, 1]) (fun e _ w => q e w) D 52 [47, 45, 44, 43, 41, 40] [.pointer (some ⟨q44, 0, none⟩), .pointer (some ⟨q45, 0, none⟩), .pointer (some ⟨q46, 0, none⟩), .pointer (some ⟨q47, 0, none⟩), .int .i64 n48, .int .i64 n49] [] w = f16.R2b q44 q45 q46 q47 n48 n49 r q w := by kernel_rfl
theorem f16.R2b_okc {r : Option Nat} {q : Exit → World → Prop} : okC Try.prog r .none (codeAt f16.body [1, 1, 1, 1, 1, 0, 1, 0, 1]) (fun e _ w => q e w) :=
  Eq.mpr (by kernel_rfl : okC Try.prog r .none (codeAt f16.body [1, 1, 1, 1, 1, 0, 1, 0, 1]) (fun e _ w => q e w) = (True)) (trivial)
theorem f16.R2b_ok {r : Option Nat} {q : Exit → World → Prop} : OKJ Try.prog r (f16.R2bp r q) (codeAt f16.body [1, 1, 1, 1, 1, 0, 1, 0, 1]) (fun e _ w => q e w) := by
  intro a w h
  obtain ⟨D, us, ds, rfl, h0⟩ := PJ_out h
  obtain ⟨v, us, rfl, h1⟩ := un_out h0
  obtain ⟨q44, rfl, h2⟩ := asBox_out h1
  obtain ⟨v, us, rfl, h3⟩ := un_out h2
  obtain ⟨q45, rfl, h4⟩ := asBox_out h3
  obtain ⟨v, us, rfl, h5⟩ := un_out h4
  obtain ⟨q46, rfl, h6⟩ := asBox_out h5
  obtain ⟨v, us, rfl, h7⟩ := un_out h6
  obtain ⟨q47, rfl, h8⟩ := asBox_out h7
  obtain ⟨v, us, rfl, h9⟩ := un_out h8
  obtain ⟨n48, rfl, h10⟩ := asI_out h9
  obtain ⟨v, us, rfl, h11⟩ := un_out h10
  obtain ⟨n49, rfl, h12⟩ := asI_out h11
  obtain ⟨rfl, h13⟩ := nl_out h12
  obtain ⟨rfl, h14⟩ := dn_out h13
  rw [← f16.R2b_den D q44 q45 q46 q47 n48 n49 r q w] at h14
  exact pc_wp Try.mixed f16.R2b_okc h14
theorem f16.R2_den (D : Nat → Value) (q37 : Nat) (q38 : Nat) (q39 : Nat) (q40 : Nat) (v41 : Value) (n42 : Int) (n43 : Int) (r : Option Nat) (G : (World → Prop) → World → Prop) (q : Exit → World → Prop) (w : World) : spK (FR D 52 [47, 45, 44, 43, 34, 33, 32] [.pointer (some ⟨q37, 0, none⟩), .pointer (some ⟨q38, 0, none⟩), .pointer (some ⟨q39, 0, none⟩), .pointer (some ⟨q40, 0, none⟩), v41, .int .i64 n42, .int .i64 n43]) (fun l => den Try.prog r (codeAt f16.body [1, 1, 1, 1, 1, 0, 1, 0, 0]) (Exit.then (fun a w => G (fun w => f16.R2bp r q a w) w) (fun _ _ _ => False)) { tmps := l.toArray, defers := [] } w) = f16.R2 q37 q38 q39 q40 n42 n43 r G q w := by kernel_rfl
theorem f16.R2_rule {q12 : Nat} {q13 : Nat} {q14 : Nat} {q15 : Nat} {v16 : Value} {k : Value → World → Prop} {w : World} {l : List HProp} {gf : Nat} {first cap : Array Value} {ds : List Deferred} (hv : v16 = .func (.func gf) first cap) (hent : ∀ args w, (callFunc gf args).run Try.prog w = .ok (.enter gf args) w) (hw : SatL w l)
    (h : ∀ (rec : LoopState → Option Code → Loop) (L D : Nat) (w : World), (∀ {n42 : Int} {n43 : Int} {K : Value → World → Prop} {w : World} {l : List HProp}, SatL w (own Blk L (.loop (rec .ready none)) :: l) → f16.R2 q12 q13 q14 q15 n42 n43 (some L) (BG L rec) (rdE L rec K) w → YLD Try.prog L #[.int .i64 n42, .int .i64 n43] K w) → SatL w (own Blk L (.loop (rec .ready none)) :: own Blk D (.deferred (some [])) :: l) → CALL Try.prog gf (first.toList ++ [Value.func (.yield L) #[] #[]] ++ cap.toList).toArray (fun _ w => f16.R2E q12 q13 q14 q15 v16 k ds rec L D w) w) :
    f16.R2rf q12 q13 q14 q15 v16 k ds w := by
  subst hv
  intro D0
  refine RF_o rfl hent hw fun fn L D w1 h1 => ?_
  refine CALL.mono (h (recO fn _ _ _ _ D) L D w1 ?_ h1) ?_
  · intro n42 n43 K w l hw h
    refine YLD_r (t := (FR D0 52 [47, 45, 44, 43, 34, 33, 32] [.pointer (some ⟨q12, 0, none⟩), .pointer (some ⟨q13, 0, none⟩), .pointer (some ⟨q14, 0, none⟩), .pointer (some ⟨q15, 0, none⟩), .func (.func gf) first cap, .int .i64 n42, .int .i64 n43]).toArray) hw rfl (by kernel_rfl) (round_ofP Try.mixed (f16.R2b_ok (r := some L)) ?_)
    rw [← f16.R2_den D0 q12 q13 q14 q15 _ n42 n43, spK_eq] at h
    exact h
  · rintro _ w2 h2
    unfold f16.R2E at h2
    rcases h2 with ⟨l2, h3, h4⟩ | ⟨l2, h3, h4⟩
    · exact .inl ⟨l2, h3, fun w' h5 => by have h6 := h4 w' h5; rw [← f16.R2A_den D0 q12 q13 q14 q15 _ k ({ target := .collected D, args := #[] } :: ds), spK_eq] at h6; exact h6⟩
    · exact .inr ⟨_, l2, h3, fun w' h5 => den_wp (r := none) Try.mixed _ _ _ _ (by have h6 := h4 w' h5; rw [← f16.R2Aret_den D0 q12 q13 q14 q15 _ k ({ target := .collected D, args := #[] } :: ds), spK_eq] at h6; exact h6)⟩
def f16.b (p1 : Option Addr) (l2 : Sl) (n3 : Int) (k : Value → World → Prop) (w : World) : Prop :=
  AL (.cells #[slv l2] 42) (fun q4 w => AL (.cells #[.bool false] 4) (fun q5 w => AL (.cells #[.int .i64 0] 3) (fun q6 w => ST (Addr.add ⟨q6, 0, none⟩ 0) (.int .i64 0) (fun w => AL (.cells #[.bool false] 4) (fun q7 w => ST (Addr.add ⟨q7, 0, none⟩ 0) (.bool true) (fun w => CALL Try.prog 11 #[.pointer p1, .int .i64 n3] (fun v8 w => ∃ v9 : Value, v8 = v9 ∧ FNIL v9 (fun b10 => brK b10 (ST (Addr.add ⟨q5, 0, none⟩ 0) (.bool false) (fun w => LD Value.bool ⟨q5, 0, none⟩ (fun b11 w => k (.bool b11) w) w) w) (f16.R2rf q4 q5 q6 q7 v9 k [] w))) w) w) w) w) w) w) w
theorem f16.den (p1 : Option Addr) (l2 : Sl) (n3 : Int) (k : Value → World → Prop) (w : World) : pc Try.prog none (.seq none .none (.seq none .none (.seq none .none (.seq none .none (.seq none .none (.seq (some (f16.J1p k)) (.seq none .none (.block (.at (f16.R2p k)))) .none)))))) f16.body (retQ Try.prog [.cell 6 4] k) (fun _ => undef) 52 [51, 50, 49] [.pointer p1, slv l2, .int .i64 n3] [] w = f16.b p1 l2 n3 k w := by kernel_rfl
theorem f16.okc {k : Value → World → Prop} : okC Try.prog none (.seq none .none (.seq none .none (.seq none .none (.seq none .none (.seq none .none (.seq (some (f16.J1p k)) (.seq none .none (.block (.at (f16.R2p k)))) .none)))))) f16.body (retQ Try.prog [.cell 6 4] k) :=
  Eq.mpr (by kernel_rfl : okC Try.prog none (.seq none .none (.seq none .none (.seq none .none (.seq none .none (.seq none .none (.seq (some (f16.J1p k)) (.seq none .none (.block (.at (f16.R2p k)))) .none)))))) f16.body (retQ Try.prog [.cell 6 4] k) = (((True) ∧ (((True) ∧ (((True) ∧ (((True) ∧ (((True) ∧ (((((True) ∧ (OKJ Try.prog none (f16.R2p k) (codeAt f16.body [1, 1, 1, 1, 1, 0, 1, 0]) (f16.Q1 k)))) ∧ OKJ Try.prog none (f16.J1p k) (codeAt f16.body [1, 1, 1, 1, 1, 1]) (f16.Q2 k)))))))))))))) (⟨trivial, ⟨trivial, ⟨trivial, ⟨trivial, ⟨trivial, ⟨⟨trivial, f16.R2_ok⟩, f16.J1_ok⟩⟩⟩⟩⟩⟩)
theorem f16.call {p1 : Option Addr} {l2 : Sl} {n3 : Int} {k : Value → World → Prop} {w : World} (h : f16.b p1 l2 n3 k w) : CALL Try.prog 16 #[.pointer p1, slv l2, .int .i64 n3] k w :=
  calls_of_pc Try.mixed Try.func16 (by kernel_rfl : Try.f16.body = some f16.body) (Try.call16 _ _) (by kernel_rfl : #[.pointer p1, slv l2, .int .i64 n3] ++ Array.replicate (Try.f16.ntmps - (#[.pointer p1, slv l2, .int .i64 n3] : Array Value).size) undef = (FR (fun _ => undef) 52 [51, 50, 49] [.pointer p1, slv l2, .int .i64 n3]).toArray) (by kernel_rfl : Try.f16.results.toList = [.cell 6 4]) f16.okc ((f16.den p1 l2 n3 k w).symm ▸ h)

/-! (*rollcall/rollcallref16.Pulse).Due -/
noncomputable def f17.body : Code := (Try.f17.body).getD .skip
def f17.J1 (l85 : Sl) (k : Value → World → Prop) (w : World) : Prop :=
  k (slv l85) w
def f17.J1p (k : Value → World → Prop) : Act → World → Prop := PJ 123 [117] fun us ds w => un us fun v us => asS v fun l85 => nl us (dn ds (f17.J1 l85 k w))
def f17.Q1 (k : Value → World → Prop) : Exit → Act → World → Prop := (Exit.inBlock 0 (Exit.then (f17.J1p k) (retQ Try.prog [.tmp 4] k)))
def f17.L2k (Kn1 : Option Addr → Int → Sl → Int → World → Prop) : Act → World → Prop := PJ 123 [122, 121, 117, 116] fun us ds w => un us fun v us => asP v fun p3 => un us fun v us => asI .i64 v fun n4 => un us fun v us => asS v fun l5 => un us fun v us => asI .i64 v fun n6 => nl us (dn ds (Kn1 p3 n4 l5 n6 w))
def f17.J3 (p50 : Option Addr) (n51 : Int) (l52 : Sl) (n53 : Int) (Kn1 : Option Addr → Int → Sl → Int → World → Prop) (k : Value → World → Prop) (w : World) : Prop :=
  Kn1 p50 n51 l52 (IntKind.wrap .i64 (n53 + 1)) w
def f17.J3p (Kn1 : Option Addr → Int → Sl → Int → World → Prop) (k : Value → World → Prop) : Act → World → Prop := PJ 123 [122, 121, 117, 116] fun us ds w => un us fun v us => asP v fun p50 => un us fun v us => asI .i64 v fun n51 => un us fun v us => asS v fun l52 => un us fun v us => asI .i64 v fun n53 => nl us (dn ds (f17.J3 p50 n51 l52 n53 Kn1 k w))
def f17.Q2 (Kn1 : Option Addr → Int → Sl → Int → World → Prop) (k : Value → World → Prop) : Exit → Act → World → Prop := (Exit.inBlock 1 (Exit.then (f17.J3p Kn1 k) (Exit.then (f17.L2k Kn1) (f17.Q1 k))))
def f17.Q3 (Kn1 : Option Addr → Int → Sl → Int → World → Prop) (k : Value → World → Prop) : Exit → Act → World → Prop := (Exit.then (f17.L2k Kn1) (f17.Q1 k))
def f17.J8 (p73 : Option Addr) (n74 : Int) (l75 : Sl) (n76 : Int) (q77 : Nat) (n78 : Int) (n79 : Int) (Kn1 : Option Addr → Int → Sl → Int → World → Prop) (k : Value → World → Prop) (w : World) : Prop :=
  RQ (0 ≤ (n79 : Int) ∧ (n79 : Int) ≤ ((l75.2.2 : Nat) : Int)) (APP 51 2 16 #[.int .i64 0, .int .i64 0] (none, 0, 0) ((slSub l75 0 ((n79 : Int).toNat) 2).2.1) (fun w => cellsOfS w (slSub l75 0 ((n79 : Int).toNat) 2) (((slSub l75 0 ((n79 : Int).toNat) 2).2.1) * 2)) (fun l80 w => LD (Value.int .i64) (Addr.add ⟨q77, 0, none⟩ 0) (fun n81 w => AL (.cells #[.int .i64 n81, .int .i64 n78] 51) (fun q82 w => APP 51 2 16 #[.int .i64 0, .int .i64 0] l80 1 (fun w => cellsOfS w ((some ⟨q82, 0, none⟩), 1, 1) (1 * 2)) (fun l83 w => RQ (0 ≤ (n79 : Int) ∧ (n79 : Int) ≤ ((l75.2.1 : Nat) : Int)) (APP 51 2 16 #[.int .i64 0, .int .i64 0] l83 ((slSub l75 ((n79 : Int).toNat) l75.2.1 2).2.1) (fun w => cellsOfS w (slSub l75 ((n79 : Int).toNat) l75.2.1 2) (((slSub l75 ((n79 : Int).toNat) l75.2.1 2).2.1) * 2)) (fun l84 w => f17.J3 p73 n74 l84 n76 Kn1 k w) w)) w) w) w) w)
def f17.J8p (Kn1 : Option Addr → Int → Sl → Int → World → Prop) (k : Value → World → Prop) : Act → World → Prop := PJ 123 [122, 121, 117, 116, 115, 114, 113] fun us ds w => un us fun v us => asP v fun p73 => un us fun v us => asI .i64 v fun n74 => un us fun v us => asS v fun l75 => un us fun v us => asI .i64 v fun n76 => un us fun v us => asBox v fun q77 => un us fun v us => asI .i64 v fun n78 => un us fun v us => asI .i64 v fun n79 => nl us (dn ds (f17.J8 p73 n74 l75 n76 q77 n78 n79 Kn1 k w))
def f17.Q4 (Kn1 : Option Addr → Int → Sl → Int → World → Prop) (k : Value → World → Prop) : Exit → Act → World → Prop := (Exit.inBlock 2 (Exit.then (f17.J8p Kn1 k) (Exit.inBlock 1 (Exit.then (f17.J3p Kn1 k) (Exit.then (f17.L2k Kn1) (f17.Q1 k))))))
def f17.L9k (Kn2 : Option Addr → Int → Sl → Int → Nat → Int → Int → World → Prop) : Act → World → Prop := PJ 123 [122, 121, 117, 116, 115, 114, 113] fun us ds w => un us fun v us => asP v fun p63 => un us fun v us => asI .i64 v fun n64 => un us fun v us => asS v fun l65 => un us fun v us => asI .i64 v fun n66 => un us fun v us => asBox v fun q67 => un us fun v us => asI .i64 v fun n68 => un us fun v us => asI .i64 v fun n69 => nl us (dn ds (Kn2 p63 n64 l65 n66 q67 n68 n69 w))
def f17.L9 (p63 : Option Addr) (n64 : Int) (l65 : Sl) (n66 : Int) (q67 : Nat) (n68 : Int) (n69 : Int) (Kn1 : Option Addr → Int → Sl → Int → World → Prop) (Kn2 : Option Addr → Int → Sl → Int → Nat → Int → Int → World → Prop) (k : Value → World → Prop) (w : World) : Prop :=
  DR (fun w => brK (decide ((0 : Int) < n69)) (IX l65 (IntKind.wrap .i64 (n69 - 1)) 2 (fun a70 => LD (Value.int .i64) (Addr.add a70 0) (fun n71 w => LD (Value.int .i64) (Addr.add ⟨q67, 0, none⟩ 0) (fun n72 w => brK (decide (n72 < n71)) (Kn2 p63 n64 l65 n66 q67 n68 (IntKind.wrap .i64 (n69 - 1)) w) (f17.J8 p63 n64 l65 n66 q67 n68 n69 Kn1 k w)) w) w)) (f17.J8 p63 n64 l65 n66 q67 n68 n69 Kn1 k w)) w
def f17.L9lp (p63 : Option Addr) (n64 : Int) (l65 : Sl) (n66 : Int) (q67 : Nat) (n68 : Int) (n69 : Int) (Kn1 : Option Addr → Int → Sl → Int → World → Prop) (k : Value → World → Prop) (w : World) : Prop := ∀ D : Nat → Value, (Code.loop (codeAt f17.body [1, 1, 0, 1, 0, 0, 1, 0, 0, 1, 1, 1, 1, 1, 1, 1, 1, 0, 0, 0])).wpIn (Wd none) 0 Try.prog (f17.Q4 Kn1 k) (fr D 123 [122, 121, 117, 116, 115, 114, 113] [.pointer p63, .int .i64 n64, slv l65, .int .i64 n66, .pointer (some ⟨q67, 0, none⟩), .int .i64 n68, .int .i64 n69] []) w
def f17.L9p (Kn1 : Option Addr → Int → Sl → Int → World → Prop) (k : Value → World → Prop) : Act → World → Prop := PJ 123 [122, 121, 117, 116, 115, 114, 113] fun us ds w => un us fun v us => asP v fun p63 => un us fun v us => asI .i64 v fun n64 => un us fun v us => asS v fun l65 => un us fun v us => asI .i64 v fun n66 => un us fun v us => asBox v fun q67 => un us fun v us => asI .i64 v fun n68 => un us fun v us => asI .i64 v fun n69 => nl us (dn ds (f17.L9lp p63 n64 l65 n66 q67 n68 n69 Kn1 k w))
def f17.L9K (p63 : Option Addr) (n64 : Int) (l65 : Sl) (n66 : Int) (q67 : Nat) (n68 : Int) (I : Int → World → Prop) (μ : Int → World → Nat) (m : Nat) (p63' : Option Addr) (n64' : Int) (l65' : Sl) (n66' : Int) (q67' : Nat) (n68' : Int) (n69' : Int) (w : World) : Prop := (p63' = p63 ∧ n64' = n64 ∧ l65' = l65 ∧ n66' = n66 ∧ q67' = q67 ∧ n68' = n68) ∧ I n69' w ∧ μ n69' w < m
def f17.J7 (p57 : Option Addr) (n58 : Int) (l59 : Sl) (n60 : Int) (q61 : Nat) (n62 : Int) (Kn1 : Option Addr → Int → Sl → Int → World → Prop) (k : Value → World → Prop) (w : World) : Prop :=
  f17.L9lp p57 n58 l59 n60 q61 n62 ((l59.2.1 : Nat) : Int) Kn1 k w
def f17.J7p (Kn1 : Option Addr → Int → Sl → Int → World → Prop) (k : Value → World → Prop) : Act → World → Prop := PJ 123 [122, 121, 117, 116, 115, 114] fun us ds w => un us fun v us => asP v fun p57 => un us fun v us => asI .i64 v fun n58 => un us fun v us => asS v fun l59 => un us fun v us => asI .i64 v fun n60 => un us fun v us => asBox v fun q61 => un us fun v us => asI .i64 v fun n62 => nl us (dn ds (f17.J7 p57 n58 l59 n60 q61 n62 Kn1 k w))
def f17.J6 (p44 : Option Addr) (n45 : Int) (l46 : Sl) (n47 : Int) (q48 : Nat) (n49 : Int) (Kn1 : Option Addr → Int → Sl → Int → World → Prop) (k : Value → World → Prop) (w : World) : Prop :=
  brK (n49 == 0) (f17.J3 p44 n45 l46 n47 Kn1 k w) (brK (n49 == 2) (NN p44 (fun a54 => LD slv (Addr.add a54 3) (fun l55 w => IX l55 n47 4 (fun a56 => ST (Addr.add (Addr.add a56 3) 0) (.bool true) (fun w => f17.J7 p44 n45 l46 n47 q48 n49 Kn1 k w) w)) w)) (f17.J7 p44 n45 l46 n47 q48 n49 Kn1 k w))
def f17.J6p (Kn1 : Option Addr → Int → Sl → Int → World → Prop) (k : Value → World → Prop) : Act → World → Prop := PJ 123 [122, 121, 117, 116, 115, 114] fun us ds w => un us fun v us => asP v fun p44 => un us fun v us => asI .i64 v fun n45 => un us fun v us => asS v fun l46 => un us fun v us => asI .i64 v fun n47 => un us fun v us => asBox v fun q48 => un us fun v us => asI .i64 v fun n49 => nl us (dn ds (f17.J6 p44 n45 l46 n47 q48 n49 Kn1 k w))
def f17.J5 (p32 : Option Addr) (n33 : Int) (l34 : Sl) (n35 : Int) (q36 : Nat) (n37 : Int) (Kn1 : Option Addr → Int → Sl → Int → World → Prop) (k : Value → World → Prop) (w : World) : Prop :=
  DR (fun w => LD Value.bool (Addr.add ⟨q36, 0, none⟩ 2) (fun b38 w => brK b38 (LD (Value.int .i64) (Addr.add ⟨q36, 0, none⟩ 1) (fun n39 w => NN p32 (fun a40 => LD (Value.int .i64) (Addr.add a40 0) (fun n41 w => NN p32 (fun a42 => LD (Value.int .i64) (Addr.add a42 1) (fun n43 w => brK (decide ((IntKind.wrap .i64 (n41 + n43)) ≤ (IntKind.wrap .i64 (n33 - n39)))) (f17.J6 p32 n33 l34 n35 q36 3 Kn1 k w) (f17.J6 p32 n33 l34 n35 q36 n37 Kn1 k w)) w)) w)) w) (f17.J6 p32 n33 l34 n35 q36 n37 Kn1 k w)) w) w
def f17.J5p (Kn1 : Option Addr → Int → Sl → Int → World → Prop) (k : Value → World → Prop) : Act → World → Prop := PJ 123 [122, 121, 117, 116, 115, 114] fun us ds w => un us fun v us => asP v fun p32 => un us fun v us => asI .i64 v fun n33 => un us fun v us => asS v fun l34 => un us fun v us => asI .i64 v fun n35 => un us fun v us => asBox v fun q36 => un us fun v us => asI .i64 v fun n37 => nl us (dn ds (f17.J5 p32 n33 l34 n35 q36 n37 Kn1 k w))
def f17.J4 (p21 : Option Addr) (n22 : Int) (l23 : Sl) (n24 : Int) (q25 : Nat) (n26 : Int) (Kn1 : Option Addr → Int → Sl → Int → World → Prop) (k : Value → World → Prop) (w : World) : Prop :=
  DR (fun w => LD Value.bool (Addr.add ⟨q25, 0, none⟩ 2) (fun b27 w => brK b27 (LD (Value.int .i64) (Addr.add ⟨q25, 0, none⟩ 1) (fun n28 w => NN p21 (fun a29 => LD (Value.int .i64) (Addr.add a29 0) (fun n30 w => brK (decide (n30 ≤ (IntKind.wrap .i64 (n22 - n28)))) (LD Value.bool (Addr.add ⟨q25, 0, none⟩ 3) (fun b31 w => brK (!b31) (f17.J5 p21 n22 l23 n24 q25 2 Kn1 k w) (f17.J5 p21 n22 l23 n24 q25 n26 Kn1 k w)) w) (f17.J5 p21 n22 l23 n24 q25 n26 Kn1 k w)) w)) w) (f17.J5 p21 n22 l23 n24 q25 n26 Kn1 k w)) w) w
def f17.J4p (Kn1 : Option Addr → Int → Sl → Int → World → Prop) (k : Value → World → Prop) : Act → World → Prop := PJ 123 [122, 121, 117, 116, 115, 114] fun us ds w => un us fun v us => asP v fun p21 => un us fun v us => asI .i64 v fun n22 => un us fun v us => asS v fun l23 => un us fun v us => asI .i64 v fun n24 => un us fun v us => asBox v fun q25 => un us fun v us => asI .i64 v fun n26 => nl us (dn ds (f17.J4 p21 n22 l23 n24 q25 n26 Kn1 k w))
def f17.Q5 (k : Value → World → Prop) : Exit → Act → World → Prop := (retQ Try.prog [.tmp 4] k)
def f17.L2 (p3 : Option Addr) (n4 : Int) (l5 : Sl) (n6 : Int) (Kn1 : Option Addr → Int → Sl → Int → World → Prop) (k : Value → World → Prop) (w : World) : Prop :=
  NN p3 (fun a7 => LD slv (Addr.add a7 3) (fun l8 w => brK (decide (n6 < ((l8.2.1 : Nat) : Int))) (NN p3 (fun a9 => LD slv (Addr.add a9 3) (fun l10 w => IX l10 n6 4 (fun a11 => LD (Value.int .i64) (Addr.add a11 0) (fun n12 w => LD (Value.int .i64) (Addr.add a11 1) (fun n13 w => LD Value.bool (Addr.add a11 2) (fun b14 w => LD Value.bool (Addr.add a11 3) (fun b15 w => AL (.cells #[.int .i64 0, .int .i64 0, .bool false, .bool false] 48) (fun q16 w => ST (Addr.add ⟨q16, 0, none⟩ 0) (.int .i64 n12) (fun w => ST (Addr.add ⟨q16, 0, none⟩ 1) (.int .i64 n13) (fun w => ST (Addr.add ⟨q16, 0, none⟩ 2) (.bool b14) (fun w => ST (Addr.add ⟨q16, 0, none⟩ 3) (.bool b15) (fun w => DR (fun w => LD Value.bool (Addr.add ⟨q16, 0, none⟩ 2) (fun b17 w => brK (!b17) (LD (Value.int .i64) (Addr.add ⟨q16, 0, none⟩ 1) (fun n18 w => NN p3 (fun a19 => LD (Value.int .i64) (Addr.add a19 2) (fun n20 w => brK (decide (n20 ≤ (IntKind.wrap .i64 (n4 - n18)))) (f17.J4 p3 n4 l5 n6 q16 1 Kn1 k w) (f17.J4 p3 n4 l5 n6 q16 0 Kn1 k w)) w)) w) (f17.J4 p3 n4 l5 n6 q16 0 Kn1 k w)) w) w) w) w) w) w) w) w) w) w) w)) w)) (f17.J1 l5 k w)) w)
def f17.L2lp (p3 : Option Addr) (n4 : Int) (l5 : Sl) (n6 : Int) (k : Value → World → Prop) (w : World) : Prop := ∀ D : Nat → Value, (Code.loop (codeAt f17.body [1, 1, 0, 1, 0, 0])).wpIn (Wd none) 0 Try.prog (f17.Q1 k) (fr D 123 [122, 121, 117, 116] [.pointer p3, .int .i64 n4, slv l5, .int .i64 n6] []) w
def f17.L2p (k : Value → World → Prop) : Act → World → Prop := PJ 123 [122, 121, 117, 116] fun us ds w => un us fun v us => asP v fun p3 => un us fun v us => asI .i64 v fun n4 => un us fun v us => asS v fun l5 => un us fun v us => asI .i64 v fun n6 => nl us (dn ds (f17.L2lp p3 n4 l5 n6 k w))
def f17.L2K (p3 : Option Addr) (n4 : Int) (I : Sl → Int → World → Prop) (μ : Sl → Int → World → Nat) (m : Nat) (p3' : Option Addr) (n4' : Int) (l5' : Sl) (n6' : Int) (w : World) : Prop := (p3' = p3 ∧ n4' = n4) ∧ I l5' n6' w ∧ μ l5' n6' w < m
theorem f17.J3_den (D : Nat → Value) (p50 : Option Addr) (n51 : Int) (l52 : Sl) (n53 : Int) (Kn1 : Option Addr → Int → Sl → Int → World → Prop) (k : Value → World → Prop) (w : World) : pc Try.prog none .none (codeAt f17.body [1, 1, 0, 1, 0, 0, 1, 1]) (f17.Q3 Kn1 k) D 123 [122, 121, 117, 116] [.pointer p50, .int .i64 n51, slv l52, .int .i64 n53] [] w = f17.J3 p50 n51 l52 n53 Kn1 k w := by kernel_rfl
theorem f17.J3_okc {Kn1 : Option Addr → Int → Sl → Int → World → Prop} {k : Value → World → Prop} : okC Try.prog none .none (codeAt f17.body [1, 1, 0, 1, 0, 0, 1, 1]) (f17.Q3 Kn1 k) :=
  Eq.mpr (by kernel_rfl : okC Try.prog none .none (codeAt f17.body [1, 1, 0, 1, 0, 0, 1, 1]) (f17.Q3 Kn1 k) = (True)) (trivial)
theorem f17.J3_ok {Kn1 : Option Addr → Int → Sl → Int → World → Prop} {k : Value → World → Prop} : OKJ Try.prog none (f17.J3p Kn1 k) (codeAt f17.body [1, 1, 0, 1, 0, 0, 1, 1]) (f17.Q3 Kn1 k) := by
  intro a w h
  obtain ⟨D, us, ds, rfl, h0⟩ := PJ_out h
  obtain ⟨v, us, rfl, h1⟩ := un_out h0
  obtain ⟨p50, rfl, h2⟩ := asP_out h1
  obtain ⟨v, us, rfl, h3⟩ := un_out h2
  obtain ⟨n51, rfl, h4⟩ := asI_out h3
  obtain ⟨v, us, rfl, h5⟩ := un_out h4
  obtain ⟨l52, rfl, h6⟩ := asS_out h5
  obtain ⟨v, us, rfl, h7⟩ := un_out h6
  obtain ⟨n53, rfl, h8⟩ := asI_out h7
  obtain ⟨rfl, h9⟩ := nl_out h8
  obtain ⟨rfl, h10⟩ := dn_out h9
  rw [← f17.J3_den D p50 n51 l52 n53 Kn1 k w] at h10
  exact pc_wp Try.mixed f17.J3_okc h10
theorem f17.J8_den (D : Nat → Value) (p73 : Option Addr) (n74 : Int) (l75 : Sl) (n76 : Int) (q77 : Nat) (n78 : Int) (n79 : Int) (Kn1 : Option Addr → Int → Sl → Int → World → Prop) (k : Value → World → Prop) (w : World) : pc Try.prog none .none (codeAt f17.body [1, 1, 0, 1, 0, 0, 1, 0, 0, 1, 1, 1, 1, 1, 1, 1, 1, 1]) (f17.Q2 Kn1 k) D 123 [122, 121, 117, 116, 115, 114, 113] [.pointer p73, .int .i64 n74, slv l75, .int .i64 n76, .pointer (some ⟨q77, 0, none⟩), .int .i64 n78, .int .i64 n79] [] w = f17.J8 p73 n74 l75 n76 q77 n78 n79 Kn1 k w := by kernel_rfl
theorem f17.J8_okc {Kn1 : Option Addr → Int → Sl → Int → World → Prop} {k : Value → World → Prop} : okC Try.prog none .none (codeAt f17.body [1, 1, 0, 1, 0, 0, 1, 0, 0, 1, 1, 1, 1, 1, 1, 1, 1, 1]) (f17.Q2 Kn1 k) :=
  Eq.mpr (by kernel_rfl : okC Try.prog none .none (codeAt f17.body [1, 1, 0, 1, 0, 0, 1, 0, 0, 1, 1, 1, 1, 1, 1, 1, 1, 1]) (f17.Q2 Kn1 k) = (True)) (trivial)
theorem f17.J8_ok {Kn1 : Option Addr → Int → Sl → Int → World → Prop} {k : Value → World → Prop} : OKJ Try.prog none (f17.J8p Kn1 k) (codeAt f17.body [1, 1, 0, 1, 0, 0, 1, 0, 0, 1, 1, 1, 1, 1, 1, 1, 1, 1]) (f17.Q2 Kn1 k) := by
  intro a w h
  obtain ⟨D, us, ds, rfl, h0⟩ := PJ_out h
  obtain ⟨v, us, rfl, h1⟩ := un_out h0
  obtain ⟨p73, rfl, h2⟩ := asP_out h1
  obtain ⟨v, us, rfl, h3⟩ := un_out h2
  obtain ⟨n74, rfl, h4⟩ := asI_out h3
  obtain ⟨v, us, rfl, h5⟩ := un_out h4
  obtain ⟨l75, rfl, h6⟩ := asS_out h5
  obtain ⟨v, us, rfl, h7⟩ := un_out h6
  obtain ⟨n76, rfl, h8⟩ := asI_out h7
  obtain ⟨v, us, rfl, h9⟩ := un_out h8
  obtain ⟨q77, rfl, h10⟩ := asBox_out h9
  obtain ⟨v, us, rfl, h11⟩ := un_out h10
  obtain ⟨n78, rfl, h12⟩ := asI_out h11
  obtain ⟨v, us, rfl, h13⟩ := un_out h12
  obtain ⟨n79, rfl, h14⟩ := asI_out h13
  obtain ⟨rfl, h15⟩ := nl_out h14
  obtain ⟨rfl, h16⟩ := dn_out h15
  rw [← f17.J8_den D p73 n74 l75 n76 q77 n78 n79 Kn1 k w] at h16
  exact pc_wp Try.mixed f17.J8_okc h16
theorem f17.L9_next {p63 : Option Addr} {n64 : Int} {l65 : Sl} {n66 : Int} {q67 : Nat} {n68 : Int} {I : Int → World → Prop} {μ : Int → World → Nat} {m : Nat} {n69 : Int} {w : World} (hI : I n69 w) (hlt : μ n69 w < m) : f17.L9K p63 n64 l65 n66 q67 n68 I μ m p63 n64 l65 n66 q67 n68 n69 w := ⟨⟨rfl, rfl, rfl, rfl, rfl, rfl⟩, hI, hlt⟩
theorem f17.L9_den (D : Nat → Value) (p63 : Option Addr) (n64 : Int) (l65 : Sl) (n66 : Int) (q67 : Nat) (n68 : Int) (n69 : Int) (Kn1 : Option Addr → Int → Sl → Int → World → Prop) (Kn2 : Option Addr → Int → Sl → Int → Nat → Int → Int → World → Prop) (k : Value → World → Prop) (w : World) : pc Try.prog none .none (codeAt f17.body [1, 1, 0, 1, 0, 0, 1, 0, 0, 1, 1, 1, 1, 1, 1, 1, 1, 0, 0, 0]) (Exit.then (f17.L9k Kn2) (f17.Q4 Kn1 k)) D 123 [122, 121, 117, 116, 115, 114, 113] [.pointer p63, .int .i64 n64, slv l65, .int .i64 n66, .pointer (some ⟨q67, 0, none⟩), .int .i64 n68, .int .i64 n69] [] w = f17.L9 p63 n64 l65 n66 q67 n68 n69 Kn1 Kn2 k w := by kernel_rfl
theorem f17.L9_okc {Kn1 : Option Addr → Int → Sl → Int → World → Prop} {Kn2 : Option Addr → Int → Sl → Int → Nat → Int → Int → World → Prop} {k : Value → World → Prop} : okC Try.prog none .none (codeAt f17.body [1, 1, 0, 1, 0, 0, 1, 0, 0, 1, 1, 1, 1, 1, 1, 1, 1, 0, 0, 0]) (Exit.then (f17.L9k Kn2) (f17.Q4 Kn1 k)) :=
  Eq.mpr (by kernel_rfl : okC Try.prog none .none (codeAt f17.body [1, 1, 0, 1, 0, 0, 1, 0, 0, 1, 1, 1, 1, 1, 1, 1, 1, 0, 0, 0]) (Exit.then (f17.L9k Kn2) (f17.Q4 Kn1 k)) = (True)) (trivial)
theorem f17.L9_ok {Kn1 : Option Addr → Int → Sl → Int → World → Prop} {k : Value → World → Prop} : OKJ Try.prog none (f17.L9p Kn1 k) (codeAt f17.body [1, 1, 0, 1, 0, 0, 1, 0, 0, 1, 1, 1, 1, 1, 1, 1, 1, 0, 0]) (f17.Q4 Kn1 k) := by
  intro a w h
  obtain ⟨D, us, ds, rfl, h0⟩ := PJ_out h
  obtain ⟨v, us, rfl, h1⟩ := un_out h0
  obtain ⟨p63, rfl, h2⟩ := asP_out h1
  obtain ⟨v, us, rfl, h3⟩ := un_out h2
  obtain ⟨n64, rfl, h4⟩ := asI_out h3
  obtain ⟨v, us, rfl, h5⟩ := un_out h4
  obtain ⟨l65, rfl, h6⟩ := asS_out h5
  obtain ⟨v, us, rfl, h7⟩ := un_out h6
  obtain ⟨n66, rfl, h8⟩ := asI_out h7
  obtain ⟨v, us, rfl, h9⟩ := un_out h8
  obtain ⟨q67, rfl, h10⟩ := asBox_out h9
  obtain ⟨v, us, rfl, h11⟩ := un_out h10
  obtain ⟨n68, rfl, h12⟩ := asI_out h11
  obtain ⟨v, us, rfl, h13⟩ := un_out h12
  obtain ⟨n69, rfl, h14⟩ := asI_out h13
  obtain ⟨rfl, h15⟩ := nl_out h14
  obtain ⟨rfl, h16⟩ := dn_out h15
  rw [show (codeAt f17.body [1, 1, 0, 1, 0, 0, 1, 0, 0, 1, 1, 1, 1, 1, 1, 1, 1, 0, 0]) = Code.loop (codeAt f17.body [1, 1, 0, 1, 0, 0, 1, 0, 0, 1, 1, 1, 1, 1, 1, 1, 1, 0, 0, 0]) by kernel_rfl]
  exact h16 D
theorem f17.L9_rule {p63 : Option Addr} {n64 : Int} {l65 : Sl} {n66 : Int} {q67 : Nat} {n68 : Int} {Kn1 : Option Addr → Int → Sl → Int → World → Prop} {k : Value → World → Prop} (I : Int → World → Prop) (μ : Int → World → Nat) {n69 : Int} {w : World} (h0 : I n69 w)
    (hr : ∀ (n69 : Int) (w : World), I n69 w → f17.L9 p63 n64 l65 n66 q67 n68 n69 Kn1 (f17.L9K p63 n64 l65 n66 q67 n68 I μ (μ n69 w)) k w) : f17.L9lp p63 n64 l65 n66 q67 n68 n69 Kn1 k w := by
  intro D0
  refine loop_ind (P := Try.prog) (fun m a w => ∃ n69 : Int, ∃ D : Nat → Value, a = fr D 123 [122, 121, 117, 116, 115, 114, 113] [.pointer p63, .int .i64 n64, slv l65, .int .i64 n66, .pointer (some ⟨q67, 0, none⟩), .int .i64 n68, .int .i64 n69] [] ∧ I n69 w ∧ μ n69 w = m) ?_ (μ n69 w) ⟨_, D0, rfl, h0, rfl⟩
  rintro m a w ⟨n69, D, rfl, hI, rfl⟩
  have h := hr n69 w hI
  rw [← f17.L9_den D p63 n64 l65 n66 q67 n68 n69 Kn1 (f17.L9K p63 n64 l65 n66 q67 n68 I μ (μ n69 w)) k w] at h
  refine then_mono (pc_wp Try.mixed f17.L9_okc h) ?_
  clear h
  intro a w h
  obtain ⟨D, us, ds, rfl, h0⟩ := PJ_out h
  obtain ⟨v, us, rfl, h1⟩ := un_out h0
  obtain ⟨p63', rfl, h2⟩ := asP_out h1
  obtain ⟨v, us, rfl, h3⟩ := un_out h2
  obtain ⟨n64', rfl, h4⟩ := asI_out h3
  obtain ⟨v, us, rfl, h5⟩ := un_out h4
  obtain ⟨l65', rfl, h6⟩ := asS_out h5
  obtain ⟨v, us, rfl, h7⟩ := un_out h6
  obtain ⟨n66', rfl, h8⟩ := asI_out h7
  obtain ⟨v, us, rfl, h9⟩ := un_out h8
  obtain ⟨q67', rfl, h10⟩ := asBox_out h9
  obtain ⟨v, us, rfl, h11⟩ := un_out h10
  obtain ⟨n68', rfl, h12⟩ := asI_out h11
  obtain ⟨v, us, rfl, h13⟩ := un_out h12
  obtain ⟨n69', rfl, h14⟩ := asI_out h13
  obtain ⟨rfl, h15⟩ := nl_out h14
  obtain ⟨rfl, h16⟩ := dn_out h15
  obtain ⟨⟨rfl, rfl, rfl, rfl, rfl, rfl⟩, hI, hlt⟩ := h16
  exact ⟨_, hlt, _, D, rfl, hI, rfl⟩
theorem f17.J7_den (D : Nat → Value) (p57 : Option Addr) (n58 : Int) (l59 : Sl) (n60 : Int) (q61 : Nat) (n62 : Int) (Kn1 : Option Addr → Int → Sl → Int → World → Prop) (k : Value → World → Prop) (w : World) : pc Try.prog none (.seq none .none (.seq (some (f17.J8p Kn1 k)) (.block (.at (f17.L9p Kn1 k))) .none)) (codeAt f17.body [1, 1, 0, 1, 0, 0, 1, 0, 0, 1, 1, 1, 1, 1, 1, 1]) (f17.Q2 Kn1 k) D 123 [122, 121, 117, 116, 115, 114] [.pointer p57, .int .i64 n58, slv l59, .int .i64 n60, .pointer (some ⟨q61, 0, none⟩), .int .i64 n62] [] w = f17.J7 p57 n58 l59 n60 q61 n62 Kn1 k w := by kernel_rfl
theorem f17.J7_okc {Kn1 : Option Addr → Int → Sl → Int → World → Prop} {k : Value → World → Prop} : okC Try.prog none (.seq none .none (.seq (some (f17.J8p Kn1 k)) (.block (.at (f17.L9p Kn1 k))) .none)) (codeAt f17.body [1, 1, 0, 1, 0, 0, 1, 0, 0, 1, 1, 1, 1, 1, 1, 1]) (f17.Q2 Kn1 k) :=
  Eq.mpr (by kernel_rfl : okC Try.prog none (.seq none .none (.seq (some (f17.J8p Kn1 k)) (.block (.at (f17.L9p Kn1 k))) .none)) (codeAt f17.body [1, 1, 0, 1, 0, 0, 1, 0, 0, 1, 1, 1, 1, 1, 1, 1]) (f17.Q2 Kn1 k) = (((True) ∧ (((OKJ Try.prog none (f17.L9p Kn1 k) (codeAt f17.body [1, 1, 0, 1, 0, 0, 1, 0, 0, 1, 1, 1, 1, 1, 1, 1, 1, 0, 0]) (f17.Q4 Kn1 k)) ∧ OKJ Try.prog none (f17.J8p Kn1 k) (codeAt f17.body [1, 1, 0, 1, 0, 0, 1, 0, 0, 1, 1, 1, 1, 1, 1, 1, 1, 1]) (f17.Q2 Kn1 k)))))) (⟨trivial, ⟨f17.L9_ok, f17.J8_ok⟩⟩)
theorem f17.J7_ok {Kn1 : Option Addr → Int → Sl → Int → World → Prop} {k : Value → World → Prop} : OKJ Try.prog none (f17.J7p Kn1 k) (codeAt f17.body [1, 1, 0, 1, 0, 0, 1, 0, 0, 1, 1, 1, 1, 1, 1, 1]) (f17.Q2 Kn1 k) := by
  intro a w h
  obtain ⟨D, us, ds, rfl, h0⟩ := PJ_out h
  obtain ⟨v, us, rfl, h1⟩ := un_out h0
  obtain ⟨p57, rfl, h2⟩ := asP_out h1
  obtain ⟨v, us, rfl, h3⟩ := un_out h2
  obtain ⟨n58, rfl, h4⟩ := asI_out h3
  obtain ⟨v, us, rfl, h5⟩ := un_out h4
  obtain ⟨l59, rfl, h6⟩ := asS_out h5
  obtain ⟨v, us, rfl, h7⟩ := un_out h6
  obtain ⟨n60, rfl, h8⟩ := asI_out h7
  obtain ⟨v, us, rfl, h9⟩ := un_out h8
  obtain ⟨q61, rfl, h10⟩ := asBox_out h9
  obtain ⟨v, us, rfl, h11⟩ := un_out h10
  obtain ⟨n62, rfl, h12⟩ := asI_out h11
  obtain ⟨rfl, h13⟩ := nl_out h12
  obtain ⟨rfl, h14⟩ := dn_out h13
  rw [← f17.J7_den D p57 n58 l59 n60 q61 n62 Kn1 k w] at h14
  exact pc_wp Try.mixed f17.J7_okc h14
theorem f17.J6_den (D : Nat → Value) (p44 : Option Addr) (n45 : Int) (l46 : Sl) (n47 : Int) (q48 : Nat) (n49 : Int) (Kn1 : Option Addr → Int → Sl → Int → World → Prop) (k : Value → World → Prop) (w : World) : pc Try.prog none (.seq none .none (.seq (some (f17.J7p Kn1 k)) .none .none)) (codeAt f17.body [1, 1, 0, 1, 0, 0, 1, 0, 0, 1, 1, 1, 1, 1]) (f17.Q2 Kn1 k) D 123 [122, 121, 117, 116, 115, 114] [.pointer p44, .int .i64 n45, slv l46, .int .i64 n47, .pointer (some ⟨q48, 0, none⟩), .int .i64 n49] [] w = f17.J6 p44 n45 l46 n47 q48 n49 Kn1 k w := by kernel_rfl
theorem f17.J6_okc {Kn1 : Option Addr → Int → Sl → Int → World → Prop} {k : Value → World → Prop} : okC Try.prog none (.seq none .none (.seq (some (f17.J7p Kn1 k)) .none .none)) (codeAt f17.body [1, 1, 0, 1, 0, 0, 1, 0, 0, 1, 1, 1, 1, 1]) (f17.Q2 Kn1 k) :=
  Eq.mpr (by kernel_rfl : okC Try.prog none (.seq none .none (.seq (some (f17.J7p Kn1 k)) .none .none)) (codeAt f17.body [1, 1, 0, 1, 0, 0, 1, 0, 0, 1, 1, 1, 1, 1]) (f17.Q2 Kn1 k) = (((True) ∧ (((True) ∧ OKJ Try.prog none (f17.J7p Kn1 k) (codeAt f17.body [1, 1, 0, 1, 0, 0, 1, 0, 0, 1, 1, 1, 1, 1, 1, 1]) (f17.Q2 Kn1 k)))))) (⟨trivial, ⟨trivial, f17.J7_ok⟩⟩)
theorem f17.J6_ok {Kn1 : Option Addr → Int → Sl → Int → World → Prop} {k : Value → World → Prop} : OKJ Try.prog none (f17.J6p Kn1 k) (codeAt f17.body [1, 1, 0, 1, 0, 0, 1, 0, 0, 1, 1, 1, 1, 1]) (f17.Q2 Kn1 k) := by
  intro a w h
  obtain ⟨D, us, ds, rfl, h0⟩ := PJ_out h
  obtain ⟨v, us, rfl, h1⟩ := un_out h0
  obtain ⟨p44, rfl, h2⟩ := asP_out h1
  obtain ⟨v, us, rfl, h3⟩ := un_out h2
  obtain ⟨n45, rfl, h4⟩ := asI_out h3
  obtain ⟨v, us, rfl, h5⟩ := un_out h4
  obtain ⟨l46, rfl, h6⟩ := asS_out h5
  obtain ⟨v, us, rfl, h7⟩ := un_out h6
  obtain ⟨n47, rfl, h8⟩ := asI_out h7
  obtain ⟨v, us, rfl, h9⟩ := un_out h8
  obtain ⟨q48, rfl, h10⟩ := asBox_out h9
  obtain ⟨v, us, rfl, h11⟩ := un_out h10
  obtain ⟨n49, rfl, h12⟩ := asI_out h11
  obtain ⟨rfl, h13⟩ := nl_out h12
  obtain ⟨rfl, h14⟩ := dn_out h13
  rw [← f17.J6_den D p44 n45 l46 n47 q48 n49 Kn1 k w] at h14
  exact pc_wp Try.mixed f17.J6_okc h14
theorem f17.J5_den (D : Nat → Value) (p32 : Option Addr) (n33 : Int) (l34 : Sl) (n35 : Int) (q36 : Nat) (n37 : Int) (Kn1 : Option Addr → Int → Sl → Int → World → Prop) (k : Value → World → Prop) (w : World) : pc Try.prog none (.seq (some (f17.J6p Kn1 k)) .none .none) (codeAt f17.body [1, 1, 0, 1, 0, 0, 1, 0, 0, 1, 1, 1, 1]) (f17.Q2 Kn1 k) D 123 [122, 121, 117, 116, 115, 114] [.pointer p32, .int .i64 n33, slv l34, .int .i64 n35, .pointer (some ⟨q36, 0, none⟩), .int .i64 n37] [] w = f17.J5 p32 n33 l34 n35 q36 n37 Kn1 k w := by kernel_rfl
theorem f17.J5_okc {Kn1 : Option Addr → Int → Sl → Int → World → Prop} {k : Value → World → Prop} : okC Try.prog none (.seq (some (f17.J6p Kn1 k)) .none .none) (codeAt f17.body [1, 1, 0, 1, 0, 0, 1, 0, 0, 1, 1, 1, 1]) (f17.Q2 Kn1 k) :=
  Eq.mpr (by kernel_rfl : okC Try.prog none (.seq (some (f17.J6p Kn1 k)) .none .none) (codeAt f17.body [1, 1, 0, 1, 0, 0, 1, 0, 0, 1, 1, 1, 1]) (f17.Q2 Kn1 k) = (((True) ∧ OKJ Try.prog none (f17.J6p Kn1 k) (codeAt f17.body [1, 1, 0, 1, 0, 0, 1, 0, 0, 1, 1, 1, 1, 1]) (f17.Q2 Kn1 k)))) (⟨trivial, f17.J6_ok⟩)
theorem f17.J5_ok {Kn1 : Option Addr → Int → Sl → Int → World → Prop} {k : Value → World → Prop} : OKJ Try.prog none (f17.J5p Kn1 k) (codeAt f17.body [1, 1, 0, 1, 0, 0, 1, 0, 0, 1, 1, 1, 1]) (f17.Q2 Kn1 k) := by
  intro a w h
  obtain ⟨D, us, ds, rfl, h0⟩ := PJ_out h
  obtain ⟨v, us, rfl, h1⟩ := un_out h0
  obtain ⟨p32, rfl, h2⟩ := asP_out h1
  obtain ⟨v, us, rfl, h3⟩ := un_out h2
  obtain ⟨n33, rfl, h4⟩ := asI_out h3
  obtain ⟨v, us, rfl, h5⟩ := un_out h4
  obtain ⟨l34, rfl, h6⟩ := asS_out h5
  obtain ⟨v, us, rfl, h7⟩ := un_out h6
  obtain ⟨n35, rfl, h8⟩ := asI_out h7
  obtain ⟨v, us, rfl, h9⟩ := un_out h8
  obtain ⟨q36, rfl, h10⟩ := asBox_out h9
  obtain ⟨v, us, rfl, h11⟩ := un_out h10
  obtain ⟨n37, rfl, h12⟩ := asI_out h11
  obtain ⟨rfl, h13⟩ := nl_out h12
  obtain ⟨rfl, h14⟩ := dn_out h13
  rw [← f17.J5_den D p32 n33 l34 n35 q36 n37 Kn1 k w] at h14
  exact pc_wp Try.mixed f17.J5_okc h14
theorem f17.J4_den (D : Nat → Value) (p21 : Option Addr) (n22 : Int) (l23 : Sl) (n24 : Int) (q25 : Nat) (n26 : Int) (Kn1 : Option Addr → Int → Sl → Int → World → Prop) (k : Value → World → Prop) (w : World) : pc Try.prog none (.seq (some (f17.J5p Kn1 k)) .none .none) (codeAt f17.body [1, 1, 0, 1, 0, 0, 1, 0, 0, 1, 1, 1]) (f17.Q2 Kn1 k) D 123 [122, 121, 117, 116, 115, 114] [.pointer p21, .int .i64 n22, slv l23, .int .i64 n24, .pointer (some ⟨q25, 0, none⟩), .int .i64 n26] [] w = f17.J4 p21 n22 l23 n24 q25 n26 Kn1 k w := by kernel_rfl
theorem f17.J4_okc {Kn1 : Option Addr → Int → Sl → Int → World → Prop} {k : Value → World → Prop} : okC Try.prog none (.seq (some (f17.J5p Kn1 k)) .none .none) (codeAt f17.body [1, 1, 0, 1, 0, 0, 1, 0, 0, 1, 1, 1]) (f17.Q2 Kn1 k) :=
  Eq.mpr (by kernel_rfl : okC Try.prog none (.seq (some (f17.J5p Kn1 k)) .none .none) (codeAt f17.body [1, 1, 0, 1, 0, 0, 1, 0, 0, 1, 1, 1]) (f17.Q2 Kn1 k) = (((True) ∧ OKJ Try.prog none (f17.J5p Kn1 k) (codeAt f17.body [1, 1, 0, 1, 0, 0, 1, 0, 0, 1, 1, 1, 1]) (f17.Q2 Kn1 k)))) (⟨trivial, f17.J5_ok⟩)
theorem f17.J4_ok {Kn1 : Option Addr → Int → Sl → Int → World → Prop} {k : Value → World → Prop} : OKJ Try.prog none (f17.J4p Kn1 k) (codeAt f17.body [1, 1, 0, 1, 0, 0, 1, 0, 0, 1, 1, 1]) (f17.Q2 Kn1 k) := by
  intro a w h
  obtain ⟨D, us, ds, rfl, h0⟩ := PJ_out h
  obtain ⟨v, us, rfl, h1⟩ := un_out h0
  obtain ⟨p21, rfl, h2⟩ := asP_out h1
  obtain ⟨v, us, rfl, h3⟩ := un_out h2
  obtain ⟨n22, rfl, h4⟩ := asI_out h3
  obtain ⟨v, us, rfl, h5⟩ := un_out h4
  obtain ⟨l23, rfl, h6⟩ := asS_out h5
  obtain ⟨v, us, rfl, h7⟩ := un_out h6
  obtain ⟨n24, rfl, h8⟩ := asI_out h7
  obtain ⟨v, us, rfl, h9⟩ := un_out h8
  obtain ⟨q25, rfl, h10⟩ := asBox_out h9
  obtain ⟨v, us, rfl, h11⟩ := un_out h10
  obtain ⟨n26, rfl, h12⟩ := asI_out h11
  obtain ⟨rfl, h13⟩ := nl_out h12
  obtain ⟨rfl, h14⟩ := dn_out h13
  rw [← f17.J4_den D p21 n22 l23 n24 q25 n26 Kn1 k w] at h14
  exact pc_wp Try.mixed f17.J4_okc h14
theorem f17.J1_den (D : Nat → Value) (l85 : Sl) (k : Value → World → Prop) (w : World) : pc Try.prog none .none (codeAt f17.body [1, 1, 1]) (f17.Q5 k) D 123 [117] [slv l85] [] w = f17.J1 l85 k w := by kernel_rfl
theorem f17.J1_okc {k : Value → World → Prop} : okC Try.prog none .none (codeAt f17.body [1, 1, 1]) (f17.Q5 k) :=
  Eq.mpr (by kernel_rfl : okC Try.prog none .none (codeAt f17.body [1, 1, 1]) (f17.Q5 k) = (True)) (trivial)
theorem f17.J1_ok {k : Value → World → Prop} : OKJ Try.prog none (f17.J1p k) (codeAt f17.body [1, 1, 1]) (f17.Q5 k) := by
  intro a w h
  obtain ⟨D, us, ds, rfl, h0⟩ := PJ_out h
  obtain ⟨v, us, rfl, h1⟩ := un_out h0
  obtain ⟨l85, rfl, h2⟩ := asS_out h1
  obtain ⟨rfl, h3⟩ := nl_out h2
  obtain ⟨rfl, h4⟩ := dn_out h3
  rw [← f17.J1_den D l85 k w] at h4
  exact pc_wp Try.mixed f17.J1_okc h4
theorem f17.L2_next {p3 : Option Addr} {n4 : Int} {I : Sl → Int → World → Prop} {μ : Sl → Int → World → Nat} {m : Nat} {l5 : Sl} {n6 : Int} {w : World} (hI : I l5 n6 w) (hlt : μ l5 n6 w < m) : f17.L2K p3 n4 I μ m p3 n4 l5 n6 w := ⟨⟨rfl, rfl⟩, hI, hlt⟩
theorem f17.L2_den (D : Nat → Value) (p3 : Option Addr) (n4 : Int) (l5 : Sl) (n6 : Int) (Kn1 : Option Addr → Int → Sl → Int → World → Prop) (k : Value → World → Prop) (w : World) : pc Try.prog none (.seq none .none (.seq (some (f17.J3p Kn1 k)) (.block (.seq none .none (.seq none .none (.seq (some (f17.J4p Kn1 k)) .none .none)))) .none)) (codeAt f17.body [1, 1, 0, 1, 0, 0]) (Exit.then (f17.L2k Kn1) (f17.Q1 k)) D 123 [122, 121, 117, 116] [.pointer p3, .int .i64 n4, slv l5, .int .i64 n6] [] w = f17.L2 p3 n4 l5 n6 Kn1 k w := by kernel_rfl
theorem f17.L2_okc {Kn1 : Option Addr → Int → Sl → Int → World → Prop} {k : Value → World → Prop} : okC Try.prog none (.seq none .none (.seq (some (f17.J3p Kn1 k)) (.block (.seq none .none (.seq none .none (.seq (some (f17.J4p Kn1 k)) .none .none)))) .none)) (codeAt f17.body [1, 1, 0, 1, 0, 0]) (Exit.then (f17.L2k Kn1) (f17.Q1 k)) :=
  Eq.mpr (by kernel_rfl : okC Try.prog none (.seq none .none (.seq (some (f17.J3p Kn1 k)) (.block (.seq none .none (.seq none .none (.seq (some (f17.J4p Kn1 k)) .none .none)))) .none)) (codeAt f17.body [1, 1, 0, 1, 0, 0]) (Exit.then (f17.L2k Kn1) (f17.Q1 k)) = (((True) ∧ (((((True) ∧ (((True) ∧ (((True) ∧ OKJ Try.prog none (f17.J4p Kn1 k) (codeAt f17.body [1, 1, 0, 1, 0, 0, 1, 0, 0, 1, 1, 1]) (f17.Q2 Kn1 k))))))) ∧ OKJ Try.prog none (f17.J3p Kn1 k) (codeAt f17.body [1, 1, 0, 1, 0, 0, 1, 1]) (f17.Q3 Kn1 k)))))) (⟨trivial, ⟨⟨trivial, ⟨trivial, ⟨trivial, f17.J4_ok⟩⟩⟩, f17.J3_ok⟩⟩)
theorem f17.L2_ok {k : Value → World → Prop} : OKJ Try.prog none (f17.L2p k) (codeAt f17.body [1, 1, 0, 1, 0]) (f17.Q1 k) := by
  intro a w h
  obtain ⟨D, us, ds, rfl, h0⟩ := PJ_out h
  obtain ⟨v, us, rfl, h1⟩ := un_out h0
  obtain ⟨p3, rfl, h2⟩ := asP_out h1
  obtain ⟨v, us, rfl, h3⟩ := un_out h2
  obtain ⟨n4, rfl, h4⟩ := asI_out h3
  obtain ⟨v, us, rfl, h5⟩ := un_out h4
  obtain ⟨l5, rfl, h6⟩ := asS_out h5
  obtain ⟨v, us, rfl, h7⟩ := un_out h6
  obtain ⟨n6, rfl, h8⟩ := asI_out h7
  obtain ⟨rfl, h9⟩ := nl_out h8
  obtain ⟨rfl, h10⟩ := dn_out h9
  rw [show (codeAt f17.body [1, 1, 0, 1, 0]) = Code.loop (codeAt f17.body [1, 1, 0, 1, 0, 0]) by kernel_rfl]
  exact h10 D
theorem f17.L2_rule {p3 : Option Addr} {n4 : Int} {k : Value → World → Prop} (I : Sl → Int → World → Prop) (μ : Sl → Int → World → Nat) {l5 : Sl} {n6 : Int} {w : World} (h0 : I l5 n6 w)
    (hr : ∀ (l5 : Sl) (n6 : Int) (w : World), I l5 n6 w → f17.L2 p3 n4 l5 n6 (f17.L2K p3 n4 I μ (μ l5 n6 w)) k w) : f17.L2lp p3 n4 l5 n6 k w := by
  intro D0
  refine loop_ind (P := Try.prog) (fun m a w => ∃ l5 : Sl, ∃ n6 : Int, ∃ D : Nat → Value, a = fr D 123 [122, 121, 117, 116] [.pointer p3, .int .i64 n4, slv l5, .int .i64 n6] [] ∧ I l5 n6 w ∧ μ l5 n6 w = m) ?_ (μ l5 n6 w) ⟨_, _, D0, rfl, h0, rfl⟩
  rintro m a w ⟨l5, n6, D, rfl, hI, rfl⟩
  have h := hr l5 n6 w hI
  rw [← f17.L2_den D p3 n4 l5 n6 (f17.L2K p3 n4 I μ (μ l5 n6 w)) k w] at h
  refine then_mono (pc_wp Try.mixed f17.L2_okc h) ?_
  clear h
  intro a w h
  obtain ⟨D, us, ds, rfl, h0⟩ := PJ_out h
  obtain ⟨v, us, rfl, h1⟩ := un_out h0
  obtain ⟨p3', rfl, h2⟩ := asP_out h1
  obtain ⟨v, us, rfl, h3⟩ := un_out h2
  obtain ⟨n4', rfl, h4⟩ := asI_out h3
  obtain ⟨v, us, rfl, h5⟩ := un_out h4
  obtain ⟨l5', rfl, h6⟩ := asS_out h5
  obtain ⟨v, us, rfl, h7⟩ := un_out h6
  obtain ⟨n6', rfl, h8⟩ := asI_out h7
  obtain ⟨rfl, h9⟩ := nl_out h8
  obtain ⟨rfl, h10⟩ := dn_out h9
  obtain ⟨⟨rfl, rfl⟩, hI, hlt⟩ := h10
  exact ⟨_, hlt, _, _, D, rfl, hI, rfl⟩
def f17.b (p1 : Option Addr) (n2 : Int) (k : Value → World → Prop) (w : World) : Prop :=
  f17.L2lp p1 n2 (none, 0, 0) 0 k w
theorem f17.den (p1 : Option Addr) (n2 : Int) (k : Value → World → Prop) (w : World) : pc Try.prog none (.seq none .none (.seq none .none (.seq (some (f17.J1p k)) (.seq none .none (.block (.at (f17.L2p k)))) .none))) f17.body (retQ Try.prog [.tmp 4] k) (fun _ => undef) 123 [122, 121] [.pointer p1, .int .i64 n2] [] w = f17.b p1 n2 k w := by kernel_rfl
theorem f17.okc {k : Value → World → Prop} : okC Try.prog none (.seq none .none (.seq none .none (.seq (some (f17.J1p k)) (.seq none .none (.block (.at (f17.L2p k)))) .none))) f17.body (retQ Try.prog [.tmp 4] k) :=
  Eq.mpr (by kernel_rfl : okC Try.prog none (.seq none .none (.seq none .none (.seq (some (f17.J1p k)) (.seq none .none (.block (.at (f17.L2p k)))) .none))) f17.body (retQ Try.prog [.tmp 4] k) = (((True) ∧ (((True) ∧ (((((True) ∧ (OKJ Try.prog none (f17.L2p k) (codeAt f17.body [1, 1, 0, 1, 0]) (f17.Q1 k)))) ∧ OKJ Try.prog none (f17.J1p k) (codeAt f17.body [1, 1, 1]) (f17.Q5 k)))))))) (⟨trivial, ⟨trivial, ⟨⟨trivial, f17.L2_ok⟩, f17.J1_ok⟩⟩⟩)
theorem f17.call {p1 : Option Addr} {n2 : Int} {k : Value → World → Prop} {w : World} (h : f17.b p1 n2 k w) : CALL Try.prog 17 #[.pointer p1, .int .i64 n2] k w :=
  calls_of_pc Try.mixed Try.func17 (by kernel_rfl : Try.f17.body = some f17.body) (Try.call17 _ _) (by kernel_rfl : #[.pointer p1, .int .i64 n2] ++ Array.replicate (Try.f17.ntmps - (#[.pointer p1, .int .i64 n2] : Array Value).size) undef = (FR (fun _ => undef) 123 [122, 121] [.pointer p1, .int .i64 n2]).toArray) (by kernel_rfl : Try.f17.results.toList = [.tmp 4]) f17.okc ((f17.den p1 n2 k w).symm ▸ h)

/-! (*rollcall/rollcallref16.Pulse).Join -/
noncomputable def f18.body : Code := (Try.f18.body).getD .skip
def f18.b (p1 : Option Addr) (n2 : Int) (n3 : Int) (k : Value → World → Prop) (w : World) : Prop :=
  CALL Try.prog 15 #[.pointer p1, .int .i64 n2] (fun v4 w => v4 = .tuple #[] ∧ AL (.cells #[] 48) (fun q5 w => NN p1 (fun a6 => LD slv (Addr.add a6 3) (fun l7 w => APP 48 4 24 #[.int .i64 0, .int .i64 0, .bool false, .bool false] ((some ⟨q5, 0, none⟩), 0, 0) l7.2.1 (fun w => cellsOfS w l7 (l7.2.1 * 4)) (fun l8 w => AL (.cells #[.int .i64 n2, .int .i64 n3, .bool false, .bool false] 48) (fun q9 w => APP 48 4 24 #[.int .i64 0, .int .i64 0, .bool false, .bool false] l8 1 (fun w => cellsOfS w ((some ⟨q9, 0, none⟩), 1, 1) (1 * 4)) (fun l10 w => NN p1 (fun a11 => ST (Addr.add (Addr.add a11 3) 0) (slv l10) (fun w => k (.tuple #[]) w) w)) w) w) w) w)) w) w
theorem f18.den (p1 : Option Addr) (n2 : Int) (n3 : Int) (k : Value → World → Prop) (w : World) : pc Try.prog none .none f18.body (retQ Try.prog [] k) (fun _ => undef) 23 [22, 21, 20] [.pointer p1, .int .i64 n2, .int .i64 n3] [] w = f18.b p1 n2 n3 k w := by kernel_rfl
theorem f18.okc {k : Value → World → Prop} : okC Try.prog none .none f18.body (retQ Try.prog [] k) :=
  Eq.mpr (by kernel_rfl : okC Try.prog none .none f18.body (retQ Try.prog [] k) = (True)) (trivial)
theorem f18.call {p1 : Option Addr} {n2 : Int} {n3 : Int} {k : Value → World → Prop} {w : World} (h : f18.b p1 n2 n3 k w) : CALL Try.prog 18 #[.pointer p1, .int .i64 n2, .int .i64 n3] k w :=
  calls_of_pc Try.mixed Try.func18 (by kernel_rfl : Try.f18.body = some f18.body) (Try.call18 _ _) (by kernel_rfl : #[.pointer p1, .int .i64 n2, .int .i64 n3] ++ Array.replicate (Try.f18.ntmps - (#[.pointer p1, .int .i64 n2, .int .i64 n3] : Array Value).size) undef = (FR (fun _ => undef) 23 [22, 21, 20] [.pointer p1, .int .i64 n2, .int .i64 n3]).toArray) (by kernel_rfl : Try.f18.results.toList = []) f18.okc ((f18.den p1 n2 n3 k w).symm ▸ h)

/-! (*rollcall/pulse.Pulse).Idle -/
noncomputable def f19.body : Code := (Try.f19.body).getD .skip
def f19.b (p1 : Option Addr) (n2 : Int) (n3 : Int) (k : Value → World → Prop) (w : World) : Prop :=
  brK p1.isNone (k (.tuple #[.int .i64 0, .bool false]) w) (NN p1 (fun a4 => LD Value.map (Addr.add a4 3) (fun m5 w => LK m5 (.int .i64) (.int .i64 n2) (.int .i64 0) (fun v6 b7 w => ∃ n8 : Int, v6 = .int .i64 n8 ∧ brK (!b7) (k (.tuple #[.int .i64 0, .bool false]) w) (k (.tuple #[.int .i64 (IntKind.wrap .i64 (n3 - n8)), .bool true]) w)) w) w))
theorem f19.den (p1 : Option Addr) (n2 : Int) (n3 : Int) (k : Value → World → Prop) (w : World) : pc Try.prog none .none f19.body (retQ Try.prog [.tmp 6, .tmp 7] k) (fun _ => undef) 26 [25, 24, 23] [.pointer p1, .int .i64 n2, .int .i64 n3] [] w = f19.b p1 n2 n3 k w := by kernel_rfl
theorem f19.okc {k : Value → World → Prop} : okC Try.prog none .none f19.body (retQ Try.prog [.tmp 6, .tmp 7] k) :=
  Eq.mpr (by kernel_rfl : okC Try.prog none .none f19.body (retQ Try.prog [.tmp 6, .tmp 7] k) = (True)) (trivial)
theorem f19.call {p1 : Option Addr} {n2 : Int} {n3 : Int} {k : Value → World → Prop} {w : World} (h : f19.b p1 n2 n3 k w) : CALL Try.prog 19 #[.pointer p1, .int .i64 n2, .int .i64 n3] k w :=
  calls_of_pc Try.mixed Try.func19 (by kernel_rfl : Try.f19.body = some f19.body) (Try.call19 _ _) (by kernel_rfl : #[.pointer p1, .int .i64 n2, .int .i64 n3] ++ Array.replicate (Try.f19.ntmps - (#[.pointer p1, .int .i64 n2, .int .i64 n3] : Array Value).size) undef = (FR (fun _ => undef) 26 [25, 24, 23] [.pointer p1, .int .i64 n2, .int .i64 n3]).toArray) (by kernel_rfl : Try.f19.results.toList = [.tmp 6, .tmp 7]) f19.okc ((f19.den p1 n2 n3 k w).symm ▸ h)

/-! (*rollcall/rollcallref16.Pulse).At -/
noncomputable def f20.body : Code := (Try.f20.body).getD .skip
def f20.J1 (k : Value → World → Prop) (w : World) : Prop :=
  k (.int .i64 (-1)) w
def f20.J1p (k : Value → World → Prop) : Act → World → Prop := PJ 26 [] fun us ds w => nl us (dn ds (f20.J1 k w))
def f20.Q1 (k : Value → World → Prop) : Exit → Act → World → Prop := (Exit.inBlock 0 (Exit.then (f20.J1p k) (retQ Try.prog [.tmp 4] k)))
def f20.L2k (Kn1 : Option Addr → Int → Int → World → Prop) : Act → World → Prop := PJ 26 [25, 24, 20] fun us ds w => un us fun v us => asP v fun p3 => un us fun v us => asI .i64 v fun n4 => un us fun v us => asI .i64 v fun n5 => nl us (dn ds (Kn1 p3 n4 n5 w))
def f20.Q2 (k : Value → World → Prop) : Exit → Act → World → Prop := (retQ Try.prog [.tmp 4] k)
def f20.L2 (p3 : Option Addr) (n4 : Int) (n5 : Int) (Kn1 : Option Addr → Int → Int → World → Prop) (k : Value → World → Prop) (w : World) : Prop :=
  NN p3 (fun a6 => LD slv (Addr.add a6 3) (fun l7 w => brK (decide (n5 < ((l7.2.1 : Nat) : Int))) (NN p3 (fun a8 => LD slv (Addr.add a8 3) (fun l9 w => IX l9 n5 4 (fun a10 => LD (Value.int .i64) (Addr.add a10 0) (fun n11 w => brK (n11 == n4) (k (.int .i64 n5) w) (Kn1 p3 n4 (IntKind.wrap .i64 (n5 + 1)) w)) w)) w)) (f20.J1 k w)) w)
def f20.L2lp (p3 : Option Addr) (n4 : Int) (n5 : Int) (k : Value → World → Prop) (w : World) : Prop := ∀ D : Nat → Value, (Code.loop (codeAt f20.body [1, 0, 1, 0, 0])).wpIn (Wd none) 0 Try.prog (f20.Q1 k) (fr D 26 [25, 24, 20] [.pointer p3, .int .i64 n4, .int .i64 n5] []) w
def f20.L2p (k : Value → World → Prop) : Act → World → Prop := PJ 26 [25, 24, 20] fun us ds w => un us fun v us => asP v fun p3 => un us fun v us => asI .i64 v fun n4 => un us fun v us => asI .i64 v fun n5 => nl us (dn ds (f20.L2lp p3 n4 n5 k w))
def f20.L2K (p3 : Option Addr) (n4 : Int) (I : Int → World → Prop) (μ : Int → World → Nat) (m : Nat) (p3' : Option Addr) (n4' : Int) (n5' : Int) (w : World) : Prop := (p3' = p3 ∧ n4' = n4) ∧ I n5' w ∧ μ n5' w < m
theorem f20.J1_den (D : Nat → Value) (k : Value → World → Prop) (w : World) : pc Try.prog none .none (codeAt f20.body [1, 1]) (f20.Q2 k) D 26 [] [] [] w = f20.J1 k w := by kernel_rfl
theorem f20.J1_okc {k : Value → World → Prop} : okC Try.prog none .none (codeAt f20.body [1, 1]) (f20.Q2 k) :=
  Eq.mpr (by kernel_rfl : okC Try.prog none .none (codeAt f20.body [1, 1]) (f20.Q2 k) = (True)) (trivial)
theorem f20.J1_ok {k : Value → World → Prop} : OKJ Try.prog none (f20.J1p k) (codeAt f20.body [1, 1]) (f20.Q2 k) := by
  intro a w h
  obtain ⟨D, us, ds, rfl, h0⟩ := PJ_out h
  obtain ⟨rfl, h1⟩ := nl_out h0
  obtain ⟨rfl, h2⟩ := dn_out h1
  rw [← f20.J1_den D k w] at h2
  exact pc_wp Try.mixed f20.J1_okc h2
theorem f20.L2_next {p3 : Option Addr} {n4 : Int} {I : Int → World → Prop} {μ : Int → World → Nat} {m : Nat} {n5 : Int} {w : World} (hI : I n5 w) (hlt : μ n5 w < m) : f20.L2K p3 n4 I μ m p3 n4 n5 w := ⟨⟨rfl, rfl⟩, hI, hlt⟩
theorem f20.L2_den (D : Nat → Value) (p3 : Option Addr) (n4 : Int) (n5 : Int) (Kn1 : Option Addr → Int → Int → World → Prop) (k : Value → World → Prop) (w : World) : pc Try.prog none .none (codeAt f20.body [1, 0, 1, 0, 0]) (Exit.then (f20.L2k Kn1) (f20.Q1 k)) D 26 [25, 24, 20] [.pointer p3, .int .i64 n4, .int .i64 n5] [] w = f20.L2 p3 n4 n5 Kn1 k w := by kernel_rfl
theorem f20.L2_okc {Kn1 : Option Addr → Int → Int → World → Prop} {k : Value → World → Prop} : okC Try.prog none .none (codeAt f20.body [1, 0, 1, 0, 0]) (Exit.then (f20.L2k Kn1) (f20.Q1 k)) :=
  Eq.mpr (by kernel_rfl : okC Try.prog none .none (codeAt f20.body [1, 0, 1, 0, 0]) (Exit.then (f20.L2k Kn1) (f20.Q1 k)) = (True)) (trivial)
theorem f20.L2_ok {k : Value → World → Prop} : OKJ Try.prog none (f20.L2p k) (codeAt f20.body [1, 0, 1, 0]) (f20.Q1 k) := by
  intro a w h
  obtain ⟨D, us, ds, rfl, h0⟩ := PJ_out h
  obtain ⟨v, us, rfl, h1⟩ := un_out h0
  obtain ⟨p3, rfl, h2⟩ := asP_out h1
  obtain ⟨v, us, rfl, h3⟩ := un_out h2
  obtain ⟨n4, rfl, h4⟩ := asI_out h3
  obtain ⟨v, us, rfl, h5⟩ := un_out h4
  obtain ⟨n5, rfl, h6⟩ := asI_out h5
  obtain ⟨rfl, h7⟩ := nl_out h6
  obtain ⟨rfl, h8⟩ := dn_out h7
  rw [show (codeAt f20.body [1, 0, 1, 0]) = Code.loop (codeAt f20.body [1, 0, 1, 0, 0]) by kernel_rfl]
  exact h8 D
theorem f20.L2_rule {p3 : Option Addr} {n4 : Int} {k : Value → World → Prop} (I : Int → World → Prop) (μ : Int → World → Nat) {n5 : Int} {w : World} (h0 : I n5 w)
    (hr : ∀ (n5 : Int) (w : World), I n5 w → f20.L2 p3 n4 n5 (f20.L2K p3 n4 I μ (μ n5 w)) k w) : f20.L2lp p3 n4 n5 k w := by
  intro D0
  refine loop_ind (P := Try.prog) (fun m a w => ∃ n5 : Int, ∃ D : Nat → Value, a = fr D 26 [25, 24, 20] [.pointer p3, .int .i64 n4, .int .i64 n5] [] ∧ I n5 w ∧ μ n5 w = m) ?_ (μ n5 w) ⟨_, D0, rfl, h0, rfl⟩
  rintro m a w ⟨n5, D, rfl, hI, rfl⟩
  have h := hr n5 w hI
  rw [← f20.L2_den D p3 n4 n5 (f20.L2K p3 n4 I μ (μ n5 w)) k w] at h
  refine then_mono (pc_wp Try.mixed f20.L2_okc h) ?_
  clear h
  intro a w h
  obtain ⟨D, us, ds, rfl, h0⟩ := PJ_out h
  obtain ⟨v, us, rfl, h1⟩ := un_out h0
  obtain ⟨p3', rfl, h2⟩ := asP_out h1
  obtain ⟨v, us, rfl, h3⟩ := un_out h2
  obtain ⟨n4', rfl, h4⟩ := asI_out h3
  obtain ⟨v, us, rfl, h5⟩ := un_out h4
  obtain ⟨n5', rfl, h6⟩ := asI_out h5
  obtain ⟨rfl, h7⟩ := nl_out h6
  obtain ⟨rfl, h8⟩ := dn_out h7
  obtain ⟨⟨rfl, rfl⟩, hI, hlt⟩ := h8
  exact ⟨_, hlt, _, D, rfl, hI, rfl⟩
def f20.b (p1 : Option Addr) (n2 : Int) (k : Value → World → Prop) (w : World) : Prop :=
  f20.L2lp p1 n2 0 k w
theorem f20.den (p1 : Option Addr) (n2 : Int) (k : Value → World → Prop) (w : World) : pc Try.prog none (.seq none .none (.seq (some (f20.J1p k)) (.seq none .none (.block (.at (f20.L2p k)))) .none)) f20.body (retQ Try.prog [.tmp 4] k) (fun _ => undef) 26 [25, 24] [.pointer p1, .int .i64 n2] [] w = f20.b p1 n2 k w := by kernel_rfl
theorem f20.okc {k : Value → World → Prop} : okC Try.prog none (.seq none .none (.seq (some (f20.J1p k)) (.seq none .none (.block (.at (f20.L2p k)))) .none)) f20.body (retQ Try.prog [.tmp 4] k) :=
  Eq.mpr (by kernel_rfl : okC Try.prog none (.seq none .none (.seq (some (f20.J1p k)) (.seq none .none (.block (.at (f20.L2p k)))) .none)) f20.body (retQ Try.prog [.tmp 4] k) = (((True) ∧ (((((True) ∧ (OKJ Try.prog none (f20.L2p k) (codeAt f20.body [1, 0, 1, 0]) (f20.Q1 k)))) ∧ OKJ Try.prog none (f20.J1p k) (codeAt f20.body [1, 1]) (f20.Q2 k)))))) (⟨trivial, ⟨⟨trivial, f20.L2_ok⟩, f20.J1_ok⟩⟩)
theorem f20.call {p1 : Option Addr} {n2 : Int} {k : Value → World → Prop} {w : World} (h : f20.b p1 n2 k w) : CALL Try.prog 20 #[.pointer p1, .int .i64 n2] k w :=
  calls_of_pc Try.mixed Try.func20 (by kernel_rfl : Try.f20.body = some f20.body) (Try.call20 _ _) (by kernel_rfl : #[.pointer p1, .int .i64 n2] ++ Array.replicate (Try.f20.ntmps - (#[.pointer p1, .int .i64 n2] : Array Value).size) undef = (FR (fun _ => undef) 26 [25, 24] [.pointer p1, .int .i64 n2]).toArray) (by kernel_rfl : Try.f20.results.toList = [.tmp 4]) f20.okc ((f20.den p1 n2 k w).symm ▸ h)

/-! rollcall/timer.New[int] -/
noncomputable def f21.body : Code := (Try.f21.body).getD .skip
def f21.b (k : Value → World → Prop) (w : World) : Prop :=
  AL (.map #[] 0) (fun q1 w => AL (.cells #[slv (none, 0, 0), .map (some q1)] 69) (fun q2 w => k (.pointer (some ⟨q2, 0, none⟩)) w) w) w
theorem f21.den (k : Value → World → Prop) (w : World) : pc Try.prog none .none f21.body (retQ Try.prog [.tmp 0] k) (fun _ => undef) 4 [] [] [] w = f21.b k w := by kernel_rfl
theorem f21.okc {k : Value → World → Prop} : okC Try.prog none .none f21.body (retQ Try.prog [.tmp 0] k) :=
  Eq.mpr (by kernel_rfl : okC Try.prog none .none f21.body (retQ Try.prog [.tmp 0] k) = (True)) (trivial)
theorem f21.call {k : Value → World → Prop} {w : World} (h : f21.b k w) : CALL Try.prog 21 #[] k w :=
  calls_of_pc Try.mixed Try.func21 (by kernel_rfl : Try.f21.body = some f21.body) (Try.call21 _ _) (by kernel_rfl : #[] ++ Array.replicate (Try.f21.ntmps - (#[] : Array Value).size) undef = (FR (fun _ => undef) 4 [] []).toArray) (by kernel_rfl : Try.f21.results.toList = [.tmp 0]) f21.okc ((f21.den k w).symm ▸ h)
end Go.Proofs.Ytnaeabcaennbjaa
