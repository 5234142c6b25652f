/- Printed by gen2.py: the functions' bodies over the primitives of Den, in pieces. -/
import Derived.Test.YtlefdgplobifiaaGreatDoorCut
import Derived.Test.YtlefdgplobifiaaGreatDoorKit
namespace Go.Proofs.YtlefdgplobifiaaGreatDoor
open Go
set_option maxRecDepth 100000
set_option linter.unusedVariables false
/-! rollcall/room.New -/
noncomputable def f9.body : Code := (Tryz.f9.body).getD .skip
def f9.b (s1 : ByteArray) (n2 : Int) (k : Value → World → Prop) (w : World) : Prop :=
  CALL Tryz.prog 32 #[slv (none, 0, 0)] (fun v3 w => ∃ p4 : Option Addr, v3 = .pointer p4 ∧ AL (.cells #[.string s1, .int .i64 n2, slv (none, 0, 0), .string (⟨#[]⟩ : ByteArray), .int .i64 20, .string (⟨#[]⟩ : ByteArray), .int .i64 0, slv (none, 0, 0), .pointer p4] 68) (fun q5 w => k (.pointer (some ⟨q5, 0, none⟩)) w) w) w
theorem f9.den (s1 : ByteArray) (n2 : Int) (k : Value → World → Prop) (w : World) : pc Tryz.prog none .none f9.body (retQ Tryz.prog [.tmp 4] k) (fun _ => undef) 10 [9, 8] [.string s1, .int .i64 n2] [] w = f9.b s1 n2 k w := by kernel_rfl
theorem f9.okc {k : Value → World → Prop} : okC Tryz.prog none .none f9.body (retQ Tryz.prog [.tmp 4] k) :=
  Eq.mpr (by kernel_rfl : okC Tryz.prog none .none f9.body (retQ Tryz.prog [.tmp 4] k) = (True)) (trivial)
theorem f9.call {s1 : ByteArray} {n2 : Int} {k : Value → World → Prop} {w : World} (h : f9.b s1 n2 k w) : CALL Tryz.prog 9 #[.string s1, .int .i64 n2] k w :=
  calls_of_pc Tryz.mixed Tryz.func9 (by kernel_rfl : Tryz.f9.body = some f9.body) (Tryz.call9 _ _) (by kernel_rfl : #[.string s1, .int .i64 n2] ++ Array.replicate (Tryz.f9.ntmps - (#[.string s1, .int .i64 n2] : Array Value).size) undef = (FR (fun _ => undef) 10 [9, 8] [.string s1, .int .i64 n2]).toArray) (by kernel_rfl : Tryz.f9.results.toList = [.tmp 4]) f9.okc ((f9.den s1 n2 k w).symm ▸ h)

/-! rollcall/rollcallref19.New -/
noncomputable def f10.body : Code := (Tryz.f10.body).getD .skip
def f10.b (s1 : ByteArray) (n2 : Int) (k : Value → World → Prop) (w : World) : Prop :=
  AL (.cells #[.string s1, .int .i64 n2, slv (none, 0, 0), .string (⟨#[]⟩ : ByteArray), .string (⟨#[110, 116]⟩ : ByteArray), .string (⟨#[]⟩ : ByteArray), .int .i64 0, slv (none, 0, 0), slv (none, 0, 0)] 50) (fun q3 w => k (.pointer (some ⟨q3, 0, none⟩)) w) w
theorem f10.den (s1 : ByteArray) (n2 : Int) (k : Value → World → Prop) (w : World) : pc Tryz.prog none .none f10.body (retQ Tryz.prog [.tmp 4] k) (fun _ => undef) 9 [8, 7] [.string s1, .int .i64 n2] [] w = f10.b s1 n2 k w := by kernel_rfl
theorem f10.okc {k : Value → World → Prop} : okC Tryz.prog none .none f10.body (retQ Tryz.prog [.tmp 4] k) :=
  Eq.mpr (by kernel_rfl : okC Tryz.prog none .none f10.body (retQ Tryz.prog [.tmp 4] k) = (True)) (trivial)
theorem f10.call {s1 : ByteArray} {n2 : Int} {k : Value → World → Prop} {w : World} (h : f10.b s1 n2 k w) : CALL Tryz.prog 10 #[.string s1, .int .i64 n2] k w :=
  calls_of_pc Tryz.mixed Tryz.func10 (by kernel_rfl : Tryz.f10.body = some f10.body) (Tryz.call10 _ _) (by kernel_rfl : #[.string s1, .int .i64 n2] ++ Array.replicate (Tryz.f10.ntmps - (#[.string s1, .int .i64 n2] : Array Value).size) undef = (FR (fun _ => undef) 9 [8, 7] [.string s1, .int .i64 n2]).toArray) (by kernel_rfl : Tryz.f10.results.toList = [.tmp 4]) f10.okc ((f10.den s1 n2 k w).symm ▸ h)

/-! (*rollcall/room.Room).Member -/
noncomputable def f14.body : Code := (Tryz.f14.body).getD .skip
def f14.b (p1 : Option Addr) (n2 : Int) (k : Value → World → Prop) (w : World) : Prop :=
  AL (.cells #[.int .i64 0, .bool false, .bool false] 39) (fun q3 w => CALL Tryz.prog 39 #[.pointer p1, .int .i64 n2] (fun v4 w => ∃ n5 : Int, ∃ b6 : Bool, v4 = .tuple #[.int .i64 n5, .bool b6] ∧ brK (!b6) (ST (Addr.add ⟨q3, 0, none⟩ 0) (.int .i64 0) (fun w => ST (Addr.add ⟨q3, 0, none⟩ 1) (.bool false) (fun w => ST (Addr.add ⟨q3, 0, none⟩ 2) (.bool false) (fun w => LD (Value.int .i64) (Addr.add ⟨q3, 0, none⟩ 0) (fun n7 w => LD Value.bool (Addr.add ⟨q3, 0, none⟩ 1) (fun b8 w => LD Value.bool (Addr.add ⟨q3, 0, none⟩ 2) (fun b9 w => k (.tuple #[.agg #[.int .i64 n7, .bool b8, .bool b9], .bool false]) w) w) w) w) w) w) w) (NN p1 (fun a10 => LD slv (Addr.add a10 2) (fun l11 w => IX l11 n5 3 (fun a12 => LD (Value.int .i64) (Addr.add a12 0) (fun n13 w => LD Value.bool (Addr.add a12 1) (fun b14 w => LD Value.bool (Addr.add a12 2) (fun b15 w => ST (Addr.add ⟨q3, 0, none⟩ 0) (.int .i64 n13) (fun w => ST (Addr.add ⟨q3, 0, none⟩ 1) (.bool b14) (fun w => ST (Addr.add ⟨q3, 0, none⟩ 2) (.bool b15) (fun w => LD (Value.int .i64) (Addr.add ⟨q3, 0, none⟩ 0) (fun n16 w => LD Value.bool (Addr.add ⟨q3, 0, none⟩ 1) (fun b17 w => LD Value.bool (Addr.add ⟨q3, 0, none⟩ 2) (fun b18 w => k (.tuple #[.agg #[.int .i64 n16, .bool b17, .bool b18], .bool true]) w) w) w) w) w) w) w) w) w) w)) w))) w) w
theorem f14.den (p1 : Option Addr) (n2 : Int) (k : Value → World → Prop) (w : World) : pc Tryz.prog none .none f14.body (retQ Tryz.prog [.cell 4 39, .tmp 5] k) (fun _ => undef) 24 [23, 22] [.pointer p1, .int .i64 n2] [] w = f14.b p1 n2 k w := by kernel_rfl
theorem f14.okc {k : Value → World → Prop} : okC Tryz.prog none .none f14.body (retQ Tryz.prog [.cell 4 39, .tmp 5] k) :=
  Eq.mpr (by kernel_rfl : okC Tryz.prog none .none f14.body (retQ Tryz.prog [.cell 4 39, .tmp 5] k) = (True)) (trivial)
theorem f14.call {p1 : Option Addr} {n2 : Int} {k : Value → World → Prop} {w : World} (h : f14.b p1 n2 k w) : CALL Tryz.prog 14 #[.pointer p1, .int .i64 n2] k w :=
  calls_of_pc Tryz.mixed Tryz.func14 (by kernel_rfl : Tryz.f14.body = some f14.body) (Tryz.call14 _ _) (by kernel_rfl : #[.pointer p1, .int .i64 n2] ++ Array.replicate (Tryz.f14.ntmps - (#[.pointer p1, .int .i64 n2] : Array Value).size) undef = (FR (fun _ => undef) 24 [23, 22] [.pointer p1, .int .i64 n2]).toArray) (by kernel_rfl : Tryz.f14.results.toList = [.cell 4 39, .tmp 5]) f14.okc ((f14.den p1 n2 k w).symm ▸ h)

/-! rollcall/rollcallref01.Texts -/
noncomputable def f16.body : Code := (Tryz.f16.body).getD .skip
def f16.J1 (k : Value → World → Prop) (w : World) : Prop :=
  k (.bool true) w
def f16.J1p (k : Value → World → Prop) : Act → World → Prop := PJ 26 [] fun us ds w => nl us (dn ds (f16.J1 k w))
def f16.Q1 (k : Value → World → Prop) : Exit → Act → World → Prop := (Exit.inBlock 0 (Exit.then (f16.J1p k) (retQ Tryz.prog [.tmp 4] k)))
def f16.L2k (Kn1 : Sl → Sl → Int → World → Prop) : Act → World → Prop := PJ 26 [25, 24, 20] fun us ds w => un us fun v us => asS v fun l3 => un us fun v us => asS v fun l4 => un us fun v us => asI .i64 v fun n5 => nl us (dn ds (Kn1 l3 l4 n5 w))
def f16.Q2 (k : Value → World → Prop) : Exit → Act → World → Prop := (retQ Tryz.prog [.tmp 4] k)
def f16.L2 (l3 : Sl) (l4 : Sl) (n5 : Int) (Kn1 : Sl → Sl → Int → World → Prop) (k : Value → World → Prop) (w : World) : Prop :=
  brK (decide (n5 < ((l3.2.1 : Nat) : Int))) (DR (fun w => IX l3 n5 1 (fun a6 => LD Value.string a6 (fun s7 w => IX l4 n5 1 (fun a8 => LD Value.string a8 (fun s9 w => brK (!decide ((s7 : ByteArray) = s9)) (k (.bool false) w) (Kn1 l3 l4 (IntKind.wrap .i64 (n5 + 1)) w)) w)) w)) w) (f16.J1 k w)
def f16.L2lp (l3 : Sl) (l4 : Sl) (n5 : Int) (k : Value → World → Prop) (w : World) : Prop := ∀ D : Nat → Value, (Code.loop (codeAt f16.body [1, 1, 0, 1, 0, 0])).wpIn (Wd none) 0 Tryz.prog (f16.Q1 k) (fr D 26 [25, 24, 20] [slv l3, slv l4, .int .i64 n5] []) w
def f16.L2p (k : Value → World → Prop) : Act → World → Prop := PJ 26 [25, 24, 20] fun us ds w => un us fun v us => asS v fun l3 => un us fun v us => asS v fun l4 => un us fun v us => asI .i64 v fun n5 => nl us (dn ds (f16.L2lp l3 l4 n5 k w))
def f16.L2K (l3 : Sl) (l4 : Sl) (I : Int → World → Prop) (μ : Int → World → Nat) (m : Nat) (l3' : Sl) (l4' : Sl) (n5' : Int) (w : World) : Prop := (l3' = l3 ∧ l4' = l4) ∧ I n5' w ∧ μ n5' w < m
theorem f16.J1_den (D : Nat → Value) (k : Value → World → Prop) (w : World) : pc Tryz.prog none .none (codeAt f16.body [1, 1, 1]) (f16.Q2 k) D 26 [] [] [] w = f16.J1 k w := by kernel_rfl
theorem f16.J1_okc {k : Value → World → Prop} : okC Tryz.prog none .none (codeAt f16.body [1, 1, 1]) (f16.Q2 k) :=
  Eq.mpr (by kernel_rfl : okC Tryz.prog none .none (codeAt f16.body [1, 1, 1]) (f16.Q2 k) = (True)) (trivial)
theorem f16.J1_ok {k : Value → World → Prop} : OKJ Tryz.prog none (f16.J1p k) (codeAt f16.body [1, 1, 1]) (f16.Q2 k) := by
  intro a w h
  obtain ⟨D, us, ds, rfl, h0⟩ := PJ_out h
  obtain ⟨rfl, h1⟩ := nl_out h0
  obtain ⟨rfl, h2⟩ := dn_out h1
  rw [← f16.J1_den D k w] at h2
  exact pc_wp Tryz.mixed f16.J1_okc h2
theorem f16.L2_next {l3 : Sl} {l4 : Sl} {I : Int → World → Prop} {μ : Int → World → Nat} {m : Nat} {n5 : Int} {w : World} (hI : I n5 w) (hlt : μ n5 w < m) : f16.L2K l3 l4 I μ m l3 l4 n5 w := ⟨⟨rfl, rfl⟩, hI, hlt⟩
theorem f16.L2_den (D : Nat → Value) (l3 : Sl) (l4 : Sl) (n5 : Int) (Kn1 : Sl → Sl → Int → World → Prop) (k : Value → World → Prop) (w : World) : pc Tryz.prog none .none (codeAt f16.body [1, 1, 0, 1, 0, 0]) (Exit.then (f16.L2k Kn1) (f16.Q1 k)) D 26 [25, 24, 20] [slv l3, slv l4, .int .i64 n5] [] w = f16.L2 l3 l4 n5 Kn1 k w := by kernel_rfl
theorem f16.L2_okc {Kn1 : Sl → Sl → Int → World → Prop} {k : Value → World → Prop} : okC Tryz.prog none .none (codeAt f16.body [1, 1, 0, 1, 0, 0]) (Exit.then (f16.L2k Kn1) (f16.Q1 k)) :=
  Eq.mpr (by kernel_rfl : okC Tryz.prog none .none (codeAt f16.body [1, 1, 0, 1, 0, 0]) (Exit.then (f16.L2k Kn1) (f16.Q1 k)) = (True)) (trivial)
theorem f16.L2_ok {k : Value → World → Prop} : OKJ Tryz.prog none (f16.L2p k) (codeAt f16.body [1, 1, 0, 1, 0]) (f16.Q1 k) := by
  intro a w h
  obtain ⟨D, us, ds, rfl, h0⟩ := PJ_out h
  obtain ⟨v, us, rfl, h1⟩ := un_out h0
  obtain ⟨l3, rfl, h2⟩ := asS_out h1
  obtain ⟨v, us, rfl, h3⟩ := un_out h2
  obtain ⟨l4, rfl, h4⟩ := asS_out h3
  obtain ⟨v, us, rfl, h5⟩ := un_out h4
  obtain ⟨n5, rfl, h6⟩ := asI_out h5
  obtain ⟨rfl, h7⟩ := nl_out h6
  obtain ⟨rfl, h8⟩ := dn_out h7
  rw [show (codeAt f16.body [1, 1, 0, 1, 0]) = Code.loop (codeAt f16.body [1, 1, 0, 1, 0, 0]) by kernel_rfl]
  exact h8 D
theorem f16.L2_rule {l3 : Sl} {l4 : Sl} {k : Value → World → Prop} (I : Int → World → Prop) (μ : Int → World → Nat) {n5 : Int} {w : World} (h0 : I n5 w)
    (hr : ∀ (n5 : Int) (w : World), I n5 w → f16.L2 l3 l4 n5 (f16.L2K l3 l4 I μ (μ n5 w)) k w) : f16.L2lp l3 l4 n5 k w := by
  intro D0
  refine loop_ind (P := Tryz.prog) (fun m a w => ∃ n5 : Int, ∃ D : Nat → Value, a = fr D 26 [25, 24, 20] [slv l3, slv l4, .int .i64 n5] [] ∧ I n5 w ∧ μ n5 w = m) ?_ (μ n5 w) ⟨_, D0, rfl, h0, rfl⟩
  rintro m a w ⟨n5, D, rfl, hI, rfl⟩
  have h := hr n5 w hI
  rw [← f16.L2_den D l3 l4 n5 (f16.L2K l3 l4 I μ (μ n5 w)) k w] at h
  refine then_mono (pc_wp Tryz.mixed f16.L2_okc h) ?_
  clear h
  intro a w h
  obtain ⟨D, us, ds, rfl, h0⟩ := PJ_out h
  obtain ⟨v, us, rfl, h1⟩ := un_out h0
  obtain ⟨l3', rfl, h2⟩ := asS_out h1
  obtain ⟨v, us, rfl, h3⟩ := un_out h2
  obtain ⟨l4', rfl, h4⟩ := asS_out h3
  obtain ⟨v, us, rfl, h5⟩ := un_out h4
  obtain ⟨n5', rfl, h6⟩ := asI_out h5
  obtain ⟨rfl, h7⟩ := nl_out h6
  obtain ⟨rfl, h8⟩ := dn_out h7
  obtain ⟨⟨rfl, rfl⟩, hI, hlt⟩ := h8
  exact ⟨_, hlt, _, D, rfl, hI, rfl⟩
def f16.b (l1 : Sl) (l2 : Sl) (k : Value → World → Prop) (w : World) : Prop :=
  brK (((l1.2.1 : Nat) : Int) != ((l2.2.1 : Nat) : Int)) (k (.bool false) w) (f16.L2lp l1 l2 0 k w)
theorem f16.den (l1 : Sl) (l2 : Sl) (k : Value → World → Prop) (w : World) : pc Tryz.prog none (.seq none .none (.seq none .none (.seq (some (f16.J1p k)) (.seq none .none (.block (.at (f16.L2p k)))) .none))) f16.body (retQ Tryz.prog [.tmp 4] k) (fun _ => undef) 26 [25, 24] [slv l1, slv l2] [] w = f16.b l1 l2 k w := by kernel_rfl
theorem f16.okc {k : Value → World → Prop} : okC Tryz.prog none (.seq none .none (.seq none .none (.seq (some (f16.J1p k)) (.seq none .none (.block (.at (f16.L2p k)))) .none))) f16.body (retQ Tryz.prog [.tmp 4] k) :=
  Eq.mpr (by kernel_rfl : okC Tryz.prog none (.seq none .none (.seq none .none (.seq (some (f16.J1p k)) (.seq none .none (.block (.at (f16.L2p k)))) .none))) f16.body (retQ Tryz.prog [.tmp 4] k) = (((True) ∧ (((True) ∧ (((((True) ∧ (OKJ Tryz.prog none (f16.L2p k) (codeAt f16.body [1, 1, 0, 1, 0]) (f16.Q1 k)))) ∧ OKJ Tryz.prog none (f16.J1p k) (codeAt f16.body [1, 1, 1]) (f16.Q2 k)))))))) (⟨trivial, ⟨trivial, ⟨⟨trivial, f16.L2_ok⟩, f16.J1_ok⟩⟩⟩)
theorem f16.call {l1 : Sl} {l2 : Sl} {k : Value → World → Prop} {w : World} (h : f16.b l1 l2 k w) : CALL Tryz.prog 16 #[slv l1, slv l2] k w :=
  calls_of_pc Tryz.mixed Tryz.func16 (by kernel_rfl : Tryz.f16.body = some f16.body) (Tryz.call16 _ _) (by kernel_rfl : #[slv l1, slv l2] ++ Array.replicate (Tryz.f16.ntmps - (#[slv l1, slv l2] : Array Value).size) undef = (FR (fun _ => undef) 26 [25, 24] [slv l1, slv l2]).toArray) (by kernel_rfl : Tryz.f16.results.toList = [.tmp 4]) f16.okc ((f16.den l1 l2 k w).symm ▸ h)

/-! (*rollcall/rollcallref19.Room).At -/
noncomputable def f17.body : Code := (Tryz.f17.body).getD .skip
def f17.J1 (k : Value → World → Prop) (w : World) : Prop :=
  k (.int .i64 (-1)) w
def f17.J1p (k : Value → World → Prop) : Act → World → Prop := PJ 26 [] fun us ds w => nl us (dn ds (f17.J1 k w))
def f17.Q1 (k : Value → World → Prop) : Exit → Act → World → Prop := (Exit.inBlock 0 (Exit.then (f17.J1p k) (retQ Tryz.prog [.tmp 4] k)))
def f17.L2k (Kn1 : Option Addr → Int → Int → World → Prop) : Act → World → Prop := PJ 26 [25, 24, 20] fun us ds w => un us fun v us => asP v fun p3 => un us fun v us => asI .i64 v fun n4 => un us fun v us => asI .i64 v fun n5 => nl us (dn ds (Kn1 p3 n4 n5 w))
def f17.Q2 (k : Value → World → Prop) : Exit → Act → World → Prop := (retQ Tryz.prog [.tmp 4] k)
def f17.L2 (p3 : Option Addr) (n4 : Int) (n5 : Int) (Kn1 : Option Addr → Int → Int → World → Prop) (k : Value → World → Prop) (w : World) : Prop :=
  NN p3 (fun a6 => LD slv (Addr.add a6 2) (fun l7 w => brK (decide (n5 < ((l7.2.1 : Nat) : Int))) (NN p3 (fun a8 => LD slv (Addr.add a8 2) (fun l9 w => IX l9 n5 3 (fun a10 => LD (Value.int .i64) (Addr.add a10 0) (fun n11 w => brK (n11 == n4) (k (.int .i64 n5) w) (Kn1 p3 n4 (IntKind.wrap .i64 (n5 + 1)) w)) w)) w)) (f17.J1 k w)) w)
def f17.L2lp (p3 : Option Addr) (n4 : Int) (n5 : Int) (k : Value → World → Prop) (w : World) : Prop := ∀ D : Nat → Value, (Code.loop (codeAt f17.body [1, 0, 1, 0, 0])).wpIn (Wd none) 0 Tryz.prog (f17.Q1 k) (fr D 26 [25, 24, 20] [.pointer p3, .int .i64 n4, .int .i64 n5] []) w
def f17.L2p (k : Value → World → Prop) : Act → World → Prop := PJ 26 [25, 24, 20] fun us ds w => un us fun v us => asP v fun p3 => un us fun v us => asI .i64 v fun n4 => un us fun v us => asI .i64 v fun n5 => nl us (dn ds (f17.L2lp p3 n4 n5 k w))
def f17.L2K (p3 : Option Addr) (n4 : Int) (I : Int → World → Prop) (μ : Int → World → Nat) (m : Nat) (p3' : Option Addr) (n4' : Int) (n5' : Int) (w : World) : Prop := (p3' = p3 ∧ n4' = n4) ∧ I n5' w ∧ μ n5' w < m
theorem f17.J1_den (D : Nat → Value) (k : Value → World → Prop) (w : World) : pc Tryz.prog none .none (codeAt f17.body [1, 1]) (f17.Q2 k) D 26 [] [] [] w = f17.J1 k w := by kernel_rfl
theorem f17.J1_okc {k : Value → World → Prop} : okC Tryz.prog none .none (codeAt f17.body [1, 1]) (f17.Q2 k) :=
  Eq.mpr (by kernel_rfl : okC Tryz.prog none .none (codeAt f17.body [1, 1]) (f17.Q2 k) = (True)) (trivial)
theorem f17.J1_ok {k : Value → World → Prop} : OKJ Tryz.prog none (f17.J1p k) (codeAt f17.body [1, 1]) (f17.Q2 k) := by
  intro a w h
  obtain ⟨D, us, ds, rfl, h0⟩ := PJ_out h
  obtain ⟨rfl, h1⟩ := nl_out h0
  obtain ⟨rfl, h2⟩ := dn_out h1
  rw [← f17.J1_den D k w] at h2
  exact pc_wp Tryz.mixed f17.J1_okc h2
theorem f17.L2_next {p3 : Option Addr} {n4 : Int} {I : Int → World → Prop} {μ : Int → World → Nat} {m : Nat} {n5 : Int} {w : World} (hI : I n5 w) (hlt : μ n5 w < m) : f17.L2K p3 n4 I μ m p3 n4 n5 w := ⟨⟨rfl, rfl⟩, hI, hlt⟩
theorem f17.L2_den (D : Nat → Value) (p3 : Option Addr) (n4 : Int) (n5 : Int) (Kn1 : Option Addr → Int → Int → World → Prop) (k : Value → World → Prop) (w : World) : pc Tryz.prog none .none (codeAt f17.body [1, 0, 1, 0, 0]) (Exit.then (f17.L2k Kn1) (f17.Q1 k)) D 26 [25, 24, 20] [.pointer p3, .int .i64 n4, .int .i64 n5] [] w = f17.L2 p3 n4 n5 Kn1 k w := by kernel_rfl
theorem f17.L2_okc {Kn1 : Option Addr → Int → Int → World → Prop} {k : Value → World → Prop} : okC Tryz.prog none .none (codeAt f17.body [1, 0, 1, 0, 0]) (Exit.then (f17.L2k Kn1) (f17.Q1 k)) :=
  Eq.mpr (by kernel_rfl : okC Tryz.prog none .none (codeAt f17.body [1, 0, 1, 0, 0]) (Exit.then (f17.L2k Kn1) (f17.Q1 k)) = (True)) (trivial)
theorem f17.L2_ok {k : Value → World → Prop} : OKJ Tryz.prog none (f17.L2p k) (codeAt f17.body [1, 0, 1, 0]) (f17.Q1 k) := by
  intro a w h
  obtain ⟨D, us, ds, rfl, h0⟩ := PJ_out h
  obtain ⟨v, us, rfl, h1⟩ := un_out h0
  obtain ⟨p3, rfl, h2⟩ := asP_out h1
  obtain ⟨v, us, rfl, h3⟩ := un_out h2
  obtain ⟨n4, rfl, h4⟩ := asI_out h3
  obtain ⟨v, us, rfl, h5⟩ := un_out h4
  obtain ⟨n5, rfl, h6⟩ := asI_out h5
  obtain ⟨rfl, h7⟩ := nl_out h6
  obtain ⟨rfl, h8⟩ := dn_out h7
  rw [show (codeAt f17.body [1, 0, 1, 0]) = Code.loop (codeAt f17.body [1, 0, 1, 0, 0]) by kernel_rfl]
  exact h8 D
theorem f17.L2_rule {p3 : Option Addr} {n4 : Int} {k : Value → World → Prop} (I : Int → World → Prop) (μ : Int → World → Nat) {n5 : Int} {w : World} (h0 : I n5 w)
    (hr : ∀ (n5 : Int) (w : World), I n5 w → f17.L2 p3 n4 n5 (f17.L2K p3 n4 I μ (μ n5 w)) k w) : f17.L2lp p3 n4 n5 k w := by
  intro D0
  refine loop_ind (P := Tryz.prog) (fun m a w => ∃ n5 : Int, ∃ D : Nat → Value, a = fr D 26 [25, 24, 20] [.pointer p3, .int .i64 n4, .int .i64 n5] [] ∧ I n5 w ∧ μ n5 w = m) ?_ (μ n5 w) ⟨_, D0, rfl, h0, rfl⟩
  rintro m a w ⟨n5, D, rfl, hI, rfl⟩
  have h := hr n5 w hI
  rw [← f17.L2_den D p3 n4 n5 (f17.L2K p3 n4 I μ (μ n5 w)) k w] at h
  refine then_mono (pc_wp Tryz.mixed f17.L2_okc h) ?_
  clear h
  intro a w h
  obtain ⟨D, us, ds, rfl, h0⟩ := PJ_out h
  obtain ⟨v, us, rfl, h1⟩ := un_out h0
  obtain ⟨p3', rfl, h2⟩ := asP_out h1
  obtain ⟨v, us, rfl, h3⟩ := un_out h2
  obtain ⟨n4', rfl, h4⟩ := asI_out h3
  obtain ⟨v, us, rfl, h5⟩ := un_out h4
  obtain ⟨n5', rfl, h6⟩ := asI_out h5
  obtain ⟨rfl, h7⟩ := nl_out h6
  obtain ⟨rfl, h8⟩ := dn_out h7
  obtain ⟨⟨rfl, rfl⟩, hI, hlt⟩ := h8
  exact ⟨_, hlt, _, D, rfl, hI, rfl⟩
def f17.b (p1 : Option Addr) (n2 : Int) (k : Value → World → Prop) (w : World) : Prop :=
  f17.L2lp p1 n2 0 k w
theorem f17.den (p1 : Option Addr) (n2 : Int) (k : Value → World → Prop) (w : World) : pc Tryz.prog none (.seq none .none (.seq (some (f17.J1p k)) (.seq none .none (.block (.at (f17.L2p k)))) .none)) f17.body (retQ Tryz.prog [.tmp 4] k) (fun _ => undef) 26 [25, 24] [.pointer p1, .int .i64 n2] [] w = f17.b p1 n2 k w := by kernel_rfl
theorem f17.okc {k : Value → World → Prop} : okC Tryz.prog none (.seq none .none (.seq (some (f17.J1p k)) (.seq none .none (.block (.at (f17.L2p k)))) .none)) f17.body (retQ Tryz.prog [.tmp 4] k) :=
  Eq.mpr (by kernel_rfl : okC Tryz.prog none (.seq none .none (.seq (some (f17.J1p k)) (.seq none .none (.block (.at (f17.L2p k)))) .none)) f17.body (retQ Tryz.prog [.tmp 4] k) = (((True) ∧ (((((True) ∧ (OKJ Tryz.prog none (f17.L2p k) (codeAt f17.body [1, 0, 1, 0]) (f17.Q1 k)))) ∧ OKJ Tryz.prog none (f17.J1p k) (codeAt f17.body [1, 1]) (f17.Q2 k)))))) (⟨trivial, ⟨⟨trivial, f17.L2_ok⟩, f17.J1_ok⟩⟩)
theorem f17.call {p1 : Option Addr} {n2 : Int} {k : Value → World → Prop} {w : World} (h : f17.b p1 n2 k w) : CALL Tryz.prog 17 #[.pointer p1, .int .i64 n2] k w :=
  calls_of_pc Tryz.mixed Tryz.func17 (by kernel_rfl : Tryz.f17.body = some f17.body) (Tryz.call17 _ _) (by kernel_rfl : #[.pointer p1, .int .i64 n2] ++ Array.replicate (Tryz.f17.ntmps - (#[.pointer p1, .int .i64 n2] : Array Value).size) undef = (FR (fun _ => undef) 26 [25, 24] [.pointer p1, .int .i64 n2]).toArray) (by kernel_rfl : Tryz.f17.results.toList = [.tmp 4]) f17.okc ((f17.den p1 n2 k w).symm ▸ h)

/-! (*rollcall/room.Room).Name -/
noncomputable def f20.body : Code := (Tryz.f20.body).getD .skip
def f20.b (p1 : Option Addr) (k : Value → World → Prop) (w : World) : Prop :=
  brK p1.isNone (k (.string (⟨#[]⟩ : ByteArray)) w) (NN p1 (fun a2 => LD Value.string (Addr.add a2 0) (fun s3 w => k (.string s3) w) w))
theorem f20.den (p1 : Option Addr) (k : Value → World → Prop) (w : World) : pc Tryz.prog none .none f20.body (retQ Tryz.prog [.tmp 2] k) (fun _ => undef) 9 [8] [.pointer p1] [] w = f20.b p1 k w := by kernel_rfl
theorem f20.okc {k : Value → World → Prop} : okC Tryz.prog none .none f20.body (retQ Tryz.prog [.tmp 2] k) :=
  Eq.mpr (by kernel_rfl : okC Tryz.prog none .none f20.body (retQ Tryz.prog [.tmp 2] k) = (True)) (trivial)
theorem f20.call {p1 : Option Addr} {k : Value → World → Prop} {w : World} (h : f20.b p1 k w) : CALL Tryz.prog 20 #[.pointer p1] k w :=
  calls_of_pc Tryz.mixed Tryz.func20 (by kernel_rfl : Tryz.f20.body = some f20.body) (Tryz.call20 _ _) (by kernel_rfl : #[.pointer p1] ++ Array.replicate (Tryz.f20.ntmps - (#[.pointer p1] : Array Value).size) undef = (FR (fun _ => undef) 9 [8] [.pointer p1]).toArray) (by kernel_rfl : Tryz.f20.results.toList = [.tmp 2]) f20.okc ((f20.den p1 k w).symm ▸ h)

/-! (*rollcall/room.Room).Topic -/
noncomputable def f21.body : Code := (Tryz.f21.body).getD .skip
def f21.b (p1 : Option Addr) (k : Value → World → Prop) (w : World) : Prop :=
  brK p1.isNone (k (.string (⟨#[]⟩ : ByteArray)) w) (NN p1 (fun a2 => LD Value.string (Addr.add a2 3) (fun s3 w => k (.string s3) w) w))
theorem f21.den (p1 : Option Addr) (k : Value → World → Prop) (w : World) : pc Tryz.prog none .none f21.body (retQ Tryz.prog [.tmp 2] k) (fun _ => undef) 9 [8] [.pointer p1] [] w = f21.b p1 k w := by kernel_rfl
theorem f21.okc {k : Value → World → Prop} : okC Tryz.prog none .none f21.body (retQ Tryz.prog [.tmp 2] k) :=
  Eq.mpr (by kernel_rfl : okC Tryz.prog none .none f21.body (retQ Tryz.prog [.tmp 2] k) = (True)) (trivial)
theorem f21.call {p1 : Option Addr} {k : Value → World → Prop} {w : World} (h : f21.b p1 k w) : CALL Tryz.prog 21 #[.pointer p1] k w :=
  calls_of_pc Tryz.mixed Tryz.func21 (by kernel_rfl : Tryz.f21.body = some f21.body) (Tryz.call21 _ _) (by kernel_rfl : #[.pointer p1] ++ Array.replicate (Tryz.f21.ntmps - (#[.pointer p1] : Array Value).size) undef = (FR (fun _ => undef) 9 [8] [.pointer p1]).toArray) (by kernel_rfl : Tryz.f21.results.toList = [.tmp 2]) f21.okc ((f21.den p1 k w).symm ▸ h)

/-! (*rollcall/room.Room).Flag -/
noncomputable def f23.body : Code := (Tryz.f23.body).getD .skip
def f23.b (p1 : Option Addr) (n2 : Int) (k : Value → World → Prop) (w : World) : Prop :=
  DRC (fun C w => brK (!p1.isNone) (NN p1 (fun a3 => STL C (Value.int .i64) (Addr.add a3 4) (fun n4 => CALL Tryz.prog 49 #[.int .u8 n2] (fun v5 w => ∃ n6 : Int, v5 = .int .i64 n6 ∧ C w ∧ k (.bool ((intBit .and .i64 n4 n6) != 0)) w) w))) (k (.bool false) w)) w
theorem f23.den (p1 : Option Addr) (n2 : Int) (k : Value → World → Prop) (w : World) : pc Tryz.prog none .none f23.body (retQ Tryz.prog [.tmp 4] k) (fun _ => undef) 17 [16, 15] [.pointer p1, .int .u8 n2] [] w = f23.b p1 n2 k w := by kernel_rfl
theorem f23.okc {k : Value → World → Prop} : okC Tryz.prog none .none f23.body (retQ Tryz.prog [.tmp 4] k) :=
  Eq.mpr (by kernel_rfl : okC Tryz.prog none .none f23.body (retQ Tryz.prog [.tmp 4] k) = (True)) (trivial)
theorem f23.call {p1 : Option Addr} {n2 : Int} {k : Value → World → Prop} {w : World} (h : f23.b p1 n2 k w) : CALL Tryz.prog 23 #[.pointer p1, .int .u8 n2] k w :=
  calls_of_pc Tryz.mixed Tryz.func23 (by kernel_rfl : Tryz.f23.body = some f23.body) (Tryz.call23 _ _) (by kernel_rfl : #[.pointer p1, .int .u8 n2] ++ Array.replicate (Tryz.f23.ntmps - (#[.pointer p1, .int .u8 n2] : Array Value).size) undef = (FR (fun _ => undef) 17 [16, 15] [.pointer p1, .int .u8 n2]).toArray) (by kernel_rfl : Tryz.f23.results.toList = [.tmp 4]) f23.okc ((f23.den p1 n2 k w).symm ▸ h)

/-! (*rollcall/rollcallref19.Room).Flag -/
noncomputable def f24.body : Code := (Tryz.f24.body).getD .skip
def f24.J1 (k : Value → World → Prop) (w : World) : Prop :=
  k (.bool false) w
def f24.J1p (k : Value → World → Prop) : Act → World → Prop := PJ 23 [] fun us ds w => nl us (dn ds (f24.J1 k w))
def f24.Q1 (k : Value → World → Prop) : Exit → Act → World → Prop := (Exit.inBlock 0 (Exit.then (f24.J1p k) (retQ Tryz.prog [.tmp 4] k)))
def f24.L2k (Kn1 : Option Addr → Int → Int → World → Prop) : Act → World → Prop := PJ 23 [22, 21, 17] fun us ds w => un us fun v us => asP v fun p3 => un us fun v us => asI .u8 v fun n4 => un us fun v us => asI .i64 v fun n5 => nl us (dn ds (Kn1 p3 n4 n5 w))
def f24.Q2 (k : Value → World → Prop) : Exit → Act → World → Prop := (retQ Tryz.prog [.tmp 4] k)
def f24.L2 (p3 : Option Addr) (n4 : Int) (n5 : Int) (Kn1 : Option Addr → Int → Int → World → Prop) (k : Value → World → Prop) (w : World) : Prop :=
  NN p3 (fun a6 => LD Value.string (Addr.add a6 4) (fun s7 w => brK (decide (n5 < ((s7.size : Nat) : Int))) (NN p3 (fun a8 => LD Value.string (Addr.add a8 4) (fun s9 w => SIX s9 n5 (fun c10 => brK (c10 == n4) (k (.bool true) w) (Kn1 p3 n4 (IntKind.wrap .i64 (n5 + 1)) w))) w)) (f24.J1 k w)) w)
def f24.L2lp (p3 : Option Addr) (n4 : Int) (n5 : Int) (k : Value → World → Prop) (w : World) : Prop := ∀ D : Nat → Value, (Code.loop (codeAt f24.body [1, 0, 1, 0, 0])).wpIn (Wd none) 0 Tryz.prog (f24.Q1 k) (fr D 23 [22, 21, 17] [.pointer p3, .int .u8 n4, .int .i64 n5] []) w
def f24.L2p (k : Value → World → Prop) : Act → World → Prop := PJ 23 [22, 21, 17] fun us ds w => un us fun v us => asP v fun p3 => un us fun v us => asI .u8 v fun n4 => un us fun v us => asI .i64 v fun n5 => nl us (dn ds (f24.L2lp p3 n4 n5 k w))
def f24.L2K (p3 : Option Addr) (n4 : Int) (I : Int → World → Prop) (μ : Int → World → Nat) (m : Nat) (p3' : Option Addr) (n4' : Int) (n5' : Int) (w : World) : Prop := (p3' = p3 ∧ n4' = n4) ∧ I n5' w ∧ μ n5' w < m
theorem f24.J1_den (D : Nat → Value) (k : Value → World → Prop) (w : World) : pc Tryz.prog none .none (codeAt f24.body [1, 1]) (f24.Q2 k) D 23 [] [] [] w = f24.J1 k w := by kernel_rfl
theorem f24.J1_okc {k : Value → World → Prop} : okC Tryz.prog none .none (codeAt f24.body [1, 1]) (f24.Q2 k) :=
  Eq.mpr (by kernel_rfl : okC Tryz.prog none .none (codeAt f24.body [1, 1]) (f24.Q2 k) = (True)) (trivial)
theorem f24.J1_ok {k : Value → World → Prop} : OKJ Tryz.prog none (f24.J1p k) (codeAt f24.body [1, 1]) (f24.Q2 k) := by
  intro a w h
  obtain ⟨D, us, ds, rfl, h0⟩ := PJ_out h
  obtain ⟨rfl, h1⟩ := nl_out h0
  obtain ⟨rfl, h2⟩ := dn_out h1
  rw [← f24.J1_den D k w] at h2
  exact pc_wp Tryz.mixed f24.J1_okc h2
theorem f24.L2_next {p3 : Option Addr} {n4 : Int} {I : Int → World → Prop} {μ : Int → World → Nat} {m : Nat} {n5 : Int} {w : World} (hI : I n5 w) (hlt : μ n5 w < m) : f24.L2K p3 n4 I μ m p3 n4 n5 w := ⟨⟨rfl, rfl⟩, hI, hlt⟩
theorem f24.L2_den (D : Nat → Value) (p3 : Option Addr) (n4 : Int) (n5 : Int) (Kn1 : Option Addr → Int → Int → World → Prop) (k : Value → World → Prop) (w : World) : pc Tryz.prog none .none (codeAt f24.body [1, 0, 1, 0, 0]) (Exit.then (f24.L2k Kn1) (f24.Q1 k)) D 23 [22, 21, 17] [.pointer p3, .int .u8 n4, .int .i64 n5] [] w = f24.L2 p3 n4 n5 Kn1 k w := by kernel_rfl
theorem f24.L2_okc {Kn1 : Option Addr → Int → Int → World → Prop} {k : Value → World → Prop} : okC Tryz.prog none .none (codeAt f24.body [1, 0, 1, 0, 0]) (Exit.then (f24.L2k Kn1) (f24.Q1 k)) :=
  Eq.mpr (by kernel_rfl : okC Tryz.prog none .none (codeAt f24.body [1, 0, 1, 0, 0]) (Exit.then (f24.L2k Kn1) (f24.Q1 k)) = (True)) (trivial)
theorem f24.L2_ok {k : Value → World → Prop} : OKJ Tryz.prog none (f24.L2p k) (codeAt f24.body [1, 0, 1, 0]) (f24.Q1 k) := by
  intro a w h
  obtain ⟨D, us, ds, rfl, h0⟩ := PJ_out h
  obtain ⟨v, us, rfl, h1⟩ := un_out h0
  obtain ⟨p3, rfl, h2⟩ := asP_out h1
  obtain ⟨v, us, rfl, h3⟩ := un_out h2
  obtain ⟨n4, rfl, h4⟩ := asI_out h3
  obtain ⟨v, us, rfl, h5⟩ := un_out h4
  obtain ⟨n5, rfl, h6⟩ := asI_out h5
  obtain ⟨rfl, h7⟩ := nl_out h6
  obtain ⟨rfl, h8⟩ := dn_out h7
  rw [show (codeAt f24.body [1, 0, 1, 0]) = Code.loop (codeAt f24.body [1, 0, 1, 0, 0]) by kernel_rfl]
  exact h8 D
theorem f24.L2_rule {p3 : Option Addr} {n4 : Int} {k : Value → World → Prop} (I : Int → World → Prop) (μ : Int → World → Nat) {n5 : Int} {w : World} (h0 : I n5 w)
    (hr : ∀ (n5 : Int) (w : World), I n5 w → f24.L2 p3 n4 n5 (f24.L2K p3 n4 I μ (μ n5 w)) k w) : f24.L2lp p3 n4 n5 k w := by
  intro D0
  refine loop_ind (P := Tryz.prog) (fun m a w => ∃ n5 : Int, ∃ D : Nat → Value, a = fr D 23 [22, 21, 17] [.pointer p3, .int .u8 n4, .int .i64 n5] [] ∧ I n5 w ∧ μ n5 w = m) ?_ (μ n5 w) ⟨_, D0, rfl, h0, rfl⟩
  rintro m a w ⟨n5, D, rfl, hI, rfl⟩
  have h := hr n5 w hI
  rw [← f24.L2_den D p3 n4 n5 (f24.L2K p3 n4 I μ (μ n5 w)) k w] at h
  refine then_mono (pc_wp Tryz.mixed f24.L2_okc h) ?_
  clear h
  intro a w h
  obtain ⟨D, us, ds, rfl, h0⟩ := PJ_out h
  obtain ⟨v, us, rfl, h1⟩ := un_out h0
  obtain ⟨p3', rfl, h2⟩ := asP_out h1
  obtain ⟨v, us, rfl, h3⟩ := un_out h2
  obtain ⟨n4', rfl, h4⟩ := asI_out h3
  obtain ⟨v, us, rfl, h5⟩ := un_out h4
  obtain ⟨n5', rfl, h6⟩ := asI_out h5
  obtain ⟨rfl, h7⟩ := nl_out h6
  obtain ⟨rfl, h8⟩ := dn_out h7
  obtain ⟨⟨rfl, rfl⟩, hI, hlt⟩ := h8
  exact ⟨_, hlt, _, D, rfl, hI, rfl⟩
def f24.b (p1 : Option Addr) (n2 : Int) (k : Value → World → Prop) (w : World) : Prop :=
  f24.L2lp p1 n2 0 k w
theorem f24.den (p1 : Option Addr) (n2 : Int) (k : Value → World → Prop) (w : World) : pc Tryz.prog none (.seq none .none (.seq (some (f24.J1p k)) (.seq none .none (.block (.at (f24.L2p k)))) .none)) f24.body (retQ Tryz.prog [.tmp 4] k) (fun _ => undef) 23 [22, 21] [.pointer p1, .int .u8 n2] [] w = f24.b p1 n2 k w := by kernel_rfl
theorem f24.okc {k : Value → World → Prop} : okC Tryz.prog none (.seq none .none (.seq (some (f24.J1p k)) (.seq none .none (.block (.at (f24.L2p k)))) .none)) f24.body (retQ Tryz.prog [.tmp 4] k) :=
  Eq.mpr (by kernel_rfl : okC Tryz.prog none (.seq none .none (.seq (some (f24.J1p k)) (.seq none .none (.block (.at (f24.L2p k)))) .none)) f24.body (retQ Tryz.prog [.tmp 4] k) = (((True) ∧ (((((True) ∧ (OKJ Tryz.prog none (f24.L2p k) (codeAt f24.body [1, 0, 1, 0]) (f24.Q1 k)))) ∧ OKJ Tryz.prog none (f24.J1p k) (codeAt f24.body [1, 1]) (f24.Q2 k)))))) (⟨trivial, ⟨⟨trivial, f24.L2_ok⟩, f24.J1_ok⟩⟩)
theorem f24.call {p1 : Option Addr} {n2 : Int} {k : Value → World → Prop} {w : World} (h : f24.b p1 n2 k w) : CALL Tryz.prog 24 #[.pointer p1, .int .u8 n2] k w :=
  calls_of_pc Tryz.mixed Tryz.func24 (by kernel_rfl : Tryz.f24.body = some f24.body) (Tryz.call24 _ _) (by kernel_rfl : #[.pointer p1, .int .u8 n2] ++ Array.replicate (Tryz.f24.ntmps - (#[.pointer p1, .int .u8 n2] : Array Value).size) undef = (FR (fun _ => undef) 23 [22, 21] [.pointer p1, .int .u8 n2]).toArray) (by kernel_rfl : Tryz.f24.results.toList = [.tmp 4]) f24.okc ((f24.den p1 n2 k w).symm ▸ h)

/-! (*rollcall/room.Room).Add -/
noncomputable def f27.body : Code := (Tryz.f27.body).getD .skip
def f27.b (p1 : Option Addr) (n2 : Int) (b3 : Bool) (k : Value → World → Prop) (w : World) : Prop :=
  CALL Tryz.prog 39 #[.pointer p1, .int .i64 n2] (fun v4 w => ∃ n5 : Int, ∃ b6 : Bool, v4 = .tuple #[.int .i64 n5, .bool b6] ∧ brK p1.isNone (k (.tuple #[]) w) (brK b6 (k (.tuple #[]) w) (NN p1 (fun a7 => LD slv (Addr.add a7 2) (fun l8 w => AL (.cells #[.int .i64 n2, .bool b3, .bool false] 39) (fun q9 w => CALL Tryz.prog 52 #[slv l8, .int .i64 n5, slv ((some ⟨q9, 0, none⟩), 1, 1)] (fun v10 w => ∃ l11 : Sl, v10 = slv l11 ∧ NN p1 (fun a12 => ST (Addr.add (Addr.add a12 2) 0) (slv l11) (fun w => NN p1 (fun a13 => LD Value.pointer (Addr.add a13 8) (fun p14 w => AL (.cells #[.int .i64 n2] 3) (fun q15 w => CALL Tryz.prog 53 #[.pointer p14, slv ((some ⟨q15, 0, none⟩), 1, 1)] (fun v16 w => ∃ n17 : Int, v16 = .int .i64 n17 ∧ k (.tuple #[]) w) w) w) w)) w)) w) w) w)))) w
theorem f27.den (p1 : Option Addr) (n2 : Int) (b3 : Bool) (k : Value → World → Prop) (w : World) : pc Tryz.prog none .none f27.body (retQ Tryz.prog [] k) (fun _ => undef) 39 [38, 37, 36] [.pointer p1, .int .i64 n2, .bool b3] [] w = f27.b p1 n2 b3 k w := by kernel_rfl
theorem f27.okc {k : Value → World → Prop} : okC Tryz.prog none .none f27.body (retQ Tryz.prog [] k) :=
  Eq.mpr (by kernel_rfl : okC Tryz.prog none .none f27.body (retQ Tryz.prog [] k) = (True)) (trivial)
theorem f27.call {p1 : Option Addr} {n2 : Int} {b3 : Bool} {k : Value → World → Prop} {w : World} (h : f27.b p1 n2 b3 k w) : CALL Tryz.prog 27 #[.pointer p1, .int .i64 n2, .bool b3] k w :=
  calls_of_pc Tryz.mixed Tryz.func27 (by kernel_rfl : Tryz.f27.body = some f27.body) (Tryz.call27 _ _) (by kernel_rfl : #[.pointer p1, .int .i64 n2, .bool b3] ++ Array.replicate (Tryz.f27.ntmps - (#[.pointer p1, .int .i64 n2, .bool b3] : Array Value).size) undef = (FR (fun _ => undef) 39 [38, 37, 36] [.pointer p1, .int .i64 n2, .bool b3]).toArray) (by kernel_rfl : Tryz.f27.results.toList = []) f27.okc ((f27.den p1 n2 b3 k w).symm ▸ h)

/-! (*rollcall/room.Room).SetTopic -/
noncomputable def f28.body : Code := (Tryz.f28.body).getD .skip
def f28.b (p1 : Option Addr) (s2 : ByteArray) (k : Value → World → Prop) (w : World) : Prop :=
  brK (!p1.isNone) (CALL Tryz.prog 54 #[.string s2, .int .i64 200] (fun v3 w => ∃ s4 : ByteArray, v3 = .string s4 ∧ NN p1 (fun a5 => ST (Addr.add (Addr.add a5 3) 0) (.string s4) (fun w => k (.tuple #[]) w) w)) w) (k (.tuple #[]) w)
theorem f28.den (p1 : Option Addr) (s2 : ByteArray) (k : Value → World → Prop) (w : World) : pc Tryz.prog none .none f28.body (retQ Tryz.prog [] k) (fun _ => undef) 11 [10, 9] [.pointer p1, .string s2] [] w = f28.b p1 s2 k w := by kernel_rfl
theorem f28.okc {k : Value → World → Prop} : okC Tryz.prog none .none f28.body (retQ Tryz.prog [] k) :=
  Eq.mpr (by kernel_rfl : okC Tryz.prog none .none f28.body (retQ Tryz.prog [] k) = (True)) (trivial)
theorem f28.call {p1 : Option Addr} {s2 : ByteArray} {k : Value → World → Prop} {w : World} (h : f28.b p1 s2 k w) : CALL Tryz.prog 28 #[.pointer p1, .string s2] k w :=
  calls_of_pc Tryz.mixed Tryz.func28 (by kernel_rfl : Tryz.f28.body = some f28.body) (Tryz.call28 _ _) (by kernel_rfl : #[.pointer p1, .string s2] ++ Array.replicate (Tryz.f28.ntmps - (#[.pointer p1, .string s2] : Array Value).size) undef = (FR (fun _ => undef) 11 [10, 9] [.pointer p1, .string s2]).toArray) (by kernel_rfl : Tryz.f28.results.toList = []) f28.okc ((f28.den p1 s2 k w).symm ▸ h)

/-! (*rollcall/room.Room).Invite -/
noncomputable def f29.body : Code := (Tryz.f29.body).getD .skip
def f29.b (p1 : Option Addr) (n2 : Int) (k : Value → World → Prop) (w : World) : Prop :=
  brK (!p1.isNone) (NN p1 (fun a3 => LD Value.pointer (Addr.add a3 8) (fun p4 w => AL (.cells #[.int .i64 n2] 3) (fun q5 w => CALL Tryz.prog 55 #[.pointer p4, slv ((some ⟨q5, 0, none⟩), 1, 1)] (fun v6 w => ∃ n7 : Int, v6 = .int .i64 n7 ∧ k (.tuple #[]) w) w) w) w)) (k (.tuple #[]) w)
theorem f29.den (p1 : Option Addr) (n2 : Int) (k : Value → World → Prop) (w : World) : pc Tryz.prog none .none f29.body (retQ Tryz.prog [] k) (fun _ => undef) 13 [12, 11] [.pointer p1, .int .i64 n2] [] w = f29.b p1 n2 k w := by kernel_rfl
theorem f29.okc {k : Value → World → Prop} : okC Tryz.prog none .none f29.body (retQ Tryz.prog [] k) :=
  Eq.mpr (by kernel_rfl : okC Tryz.prog none .none f29.body (retQ Tryz.prog [] k) = (True)) (trivial)
theorem f29.call {p1 : Option Addr} {n2 : Int} {k : Value → World → Prop} {w : World} (h : f29.b p1 n2 k w) : CALL Tryz.prog 29 #[.pointer p1, .int .i64 n2] k w :=
  calls_of_pc Tryz.mixed Tryz.func29 (by kernel_rfl : Tryz.f29.body = some f29.body) (Tryz.call29 _ _) (by kernel_rfl : #[.pointer p1, .int .i64 n2] ++ Array.replicate (Tryz.f29.ntmps - (#[.pointer p1, .int .i64 n2] : Array Value).size) undef = (FR (fun _ => undef) 13 [12, 11] [.pointer p1, .int .i64 n2]).toArray) (by kernel_rfl : Tryz.f29.results.toList = []) f29.okc ((f29.den p1 n2 k w).symm ▸ h)

/-! (*rollcall/room.Room).Drop -/
noncomputable def f30.body : Code := (Tryz.f30.body).getD .skip
def f30.Q1 (k : Value → World → Prop) : Exit → Act → World → Prop := (retQ Tryz.prog [.tmp 4] k)
def f30.J1 (b11 : Bool) (k : Value → World → Prop) (w : World) : Prop :=
  k (.bool b11) w
def f30.J1p (k : Value → World → Prop) : Act → World → Prop := PJ 26 [19] fun us ds w => un us fun v us => asB v fun b11 => nl us (dn ds (f30.J1 b11 k w))
theorem f30.J1_den (D : Nat → Value) (b11 : Bool) (k : Value → World → Prop) (w : World) : pc Tryz.prog none .none (codeAt f30.body [1, 1, 1]) (f30.Q1 k) D 26 [19] [.bool b11] [] w = f30.J1 b11 k w := by kernel_rfl
theorem f30.J1_okc {k : Value → World → Prop} : okC Tryz.prog none .none (codeAt f30.body [1, 1, 1]) (f30.Q1 k) :=
  Eq.mpr (by kernel_rfl : okC Tryz.prog none .none (codeAt f30.body [1, 1, 1]) (f30.Q1 k) = (True)) (trivial)
theorem f30.J1_ok {k : Value → World → Prop} : OKJ Tryz.prog none (f30.J1p k) (codeAt f30.body [1, 1, 1]) (f30.Q1 k) := by
  intro a w h
  obtain ⟨D, us, ds, rfl, h0⟩ := PJ_out h
  obtain ⟨v, us, rfl, h1⟩ := un_out h0
  obtain ⟨b11, rfl, h2⟩ := asB_out h1
  obtain ⟨rfl, h3⟩ := nl_out h2
  obtain ⟨rfl, h4⟩ := dn_out h3
  rw [← f30.J1_den D b11 k w] at h4
  exact pc_wp Tryz.mixed f30.J1_okc h4
def f30.b (p1 : Option Addr) (n2 : Int) (k : Value → World → Prop) (w : World) : Prop :=
  CALL Tryz.prog 39 #[.pointer p1, .int .i64 n2] (fun v3 w => ∃ n4 : Int, ∃ b5 : Bool, v3 = .tuple #[.int .i64 n4, .bool b5] ∧ brK b5 (NN p1 (fun a6 => LD slv (Addr.add a6 2) (fun l7 w => CALL Tryz.prog 56 #[slv l7, .int .i64 n4, .int .i64 (IntKind.wrap .i64 (n4 + 1))] (fun v8 w => ∃ l9 : Sl, v8 = slv l9 ∧ NN p1 (fun a10 => ST (Addr.add (Addr.add a10 2) 0) (slv l9) (fun w => f30.J1 b5 k w) w)) w) w)) (f30.J1 b5 k w)) w
theorem f30.den (p1 : Option Addr) (n2 : Int) (k : Value → World → Prop) (w : World) : pc Tryz.prog none (.seq none .none (.seq none .none (.seq (some (f30.J1p k)) .none .none))) f30.body (retQ Tryz.prog [.tmp 4] k) (fun _ => undef) 26 [25, 24] [.pointer p1, .int .i64 n2] [] w = f30.b p1 n2 k w := by kernel_rfl
theorem f30.okc {k : Value → World → Prop} : okC Tryz.prog none (.seq none .none (.seq none .none (.seq (some (f30.J1p k)) .none .none))) f30.body (retQ Tryz.prog [.tmp 4] k) :=
  Eq.mpr (by kernel_rfl : okC Tryz.prog none (.seq none .none (.seq none .none (.seq (some (f30.J1p k)) .none .none))) f30.body (retQ Tryz.prog [.tmp 4] k) = (((True) ∧ (((True) ∧ (((True) ∧ OKJ Tryz.prog none (f30.J1p k) (codeAt f30.body [1, 1, 1]) (f30.Q1 k)))))))) (⟨trivial, ⟨trivial, ⟨trivial, f30.J1_ok⟩⟩⟩)
theorem f30.call {p1 : Option Addr} {n2 : Int} {k : Value → World → Prop} {w : World} (h : f30.b p1 n2 k w) : CALL Tryz.prog 30 #[.pointer p1, .int .i64 n2] k w :=
  calls_of_pc Tryz.mixed Tryz.func30 (by kernel_rfl : Tryz.f30.body = some f30.body) (Tryz.call30 _ _) (by kernel_rfl : #[.pointer p1, .int .i64 n2] ++ Array.replicate (Tryz.f30.ntmps - (#[.pointer p1, .int .i64 n2] : Array Value).size) undef = (FR (fun _ => undef) 26 [25, 24] [.pointer p1, .int .i64 n2]).toArray) (by kernel_rfl : Tryz.f30.results.toList = [.tmp 4]) f30.okc ((f30.den p1 n2 k w).symm ▸ h)

/-! rollcall/set.Of[int] -/
noncomputable def f32.body : Code := (Tryz.f32.body).getD .skip
def f32.b (l1 : Sl) (k : Value → World → Prop) (w : World) : Prop :=
  AL (.cells #[slv (none, 0, 0)] 94) (fun q2 w => CALL Tryz.prog 55 #[.pointer (some ⟨q2, 0, none⟩), slv l1] (fun v3 w => ∃ n4 : Int, v3 = .int .i64 n4 ∧ k (.pointer (some ⟨q2, 0, none⟩)) w) w) w
theorem f32.den (l1 : Sl) (k : Value → World → Prop) (w : World) : pc Tryz.prog none .none f32.body (retQ Tryz.prog [.tmp 2] k) (fun _ => undef) 10 [9] [slv l1] [] w = f32.b l1 k w := by kernel_rfl
theorem f32.okc {k : Value → World → Prop} : okC Tryz.prog none .none f32.body (retQ Tryz.prog [.tmp 2] k) :=
  Eq.mpr (by kernel_rfl : okC Tryz.prog none .none f32.body (retQ Tryz.prog [.tmp 2] k) = (True)) (trivial)
theorem f32.call {l1 : Sl} {k : Value → World → Prop} {w : World} (h : f32.b l1 k w) : CALL Tryz.prog 32 #[slv l1] k w :=
  calls_of_pc Tryz.mixed Tryz.func32 (by kernel_rfl : Tryz.f32.body = some f32.body) (Tryz.call32 _ _) (by kernel_rfl : #[slv l1] ++ Array.replicate (Tryz.f32.ntmps - (#[slv l1] : Array Value).size) undef = (FR (fun _ => undef) 10 [9] [slv l1]).toArray) (by kernel_rfl : Tryz.f32.results.toList = [.tmp 2]) f32.okc ((f32.den l1 k w).symm ▸ h)

/-! (*rollcall/rollcallref19.Room).Drop -/
noncomputable def f33.body : Code := (Tryz.f33.body).getD .skip
def f33.b (p1 : Option Addr) (n2 : Int) (k : Value → World → Prop) (w : World) : Prop :=
  CALL Tryz.prog 17 #[.pointer p1, .int .i64 n2] (fun v3 w => ∃ n4 : Int, v3 = .int .i64 n4 ∧ brK (decide (n4 < 0)) (k (.bool false) w) (DRC (fun C w => NN p1 (fun a5 => STL C slv (Addr.add a5 2) (fun l6 => RQ (0 ≤ (n4 : Int) ∧ (n4 : Int) ≤ ((l6.2.2 : Nat) : Int)) (NN p1 (fun a7 => STL C slv (Addr.add a7 2) (fun l8 => RQ (0 ≤ (IntKind.wrap .i64 (n4 + 1) : Int) ∧ (IntKind.wrap .i64 (n4 + 1) : Int) ≤ ((l8.2.1 : Nat) : Int)) (AL (.cells #[] 39) (fun q9 w => C w ∧ APP 39 3 16 #[.int .i64 0, .bool false, .bool false] ((some ⟨q9, 0, none⟩), 0, 0) ((slSub l6 0 ((n4 : Int).toNat) 3).2.1) (fun w => cellsOfS w (slSub l6 0 ((n4 : Int).toNat) 3) (((slSub l6 0 ((n4 : Int).toNat) 3).2.1) * 3)) (fun l10 w => C w ∧ APP 39 3 16 #[.int .i64 0, .bool false, .bool false] l10 ((slSub l8 ((IntKind.wrap .i64 (n4 + 1) : Int).toNat) l8.2.1 3).2.1) (fun w => cellsOfS w (slSub l8 ((IntKind.wrap .i64 (n4 + 1) : Int).toNat) l8.2.1 3) (((slSub l8 ((IntKind.wrap .i64 (n4 + 1) : Int).toNat) l8.2.1 3).2.1) * 3)) (fun l11 w => NN p1 (fun a12 => ST (Addr.add (Addr.add a12 2) 0) (slv l11) (fun w => k (.bool true) w) w)) w) w) w))))))) w)) w
theorem f33.den (p1 : Option Addr) (n2 : Int) (k : Value → World → Prop) (w : World) : pc Tryz.prog none .none f33.body (retQ Tryz.prog [.tmp 4] k) (fun _ => undef) 30 [29, 28] [.pointer p1, .int .i64 n2] [] w = f33.b p1 n2 k w := by kernel_rfl
theorem f33.okc {k : Value → World → Prop} : okC Tryz.prog none .none f33.body (retQ Tryz.prog [.tmp 4] k) :=
  Eq.mpr (by kernel_rfl : okC Tryz.prog none .none f33.body (retQ Tryz.prog [.tmp 4] k) = (True)) (trivial)
theorem f33.call {p1 : Option Addr} {n2 : Int} {k : Value → World → Prop} {w : World} (h : f33.b p1 n2 k w) : CALL Tryz.prog 33 #[.pointer p1, .int .i64 n2] k w :=
  calls_of_pc Tryz.mixed Tryz.func33 (by kernel_rfl : Tryz.f33.body = some f33.body) (Tryz.call33 _ _) (by kernel_rfl : #[.pointer p1, .int .i64 n2] ++ Array.replicate (Tryz.f33.ntmps - (#[.pointer p1, .int .i64 n2] : Array Value).size) undef = (FR (fun _ => undef) 30 [29, 28] [.pointer p1, .int .i64 n2]).toArray) (by kernel_rfl : Tryz.f33.results.toList = [.tmp 4]) f33.okc ((f33.den p1 n2 k w).symm ▸ h)

/-! rollcall/rollcalllaw19.topic -/
noncomputable def f34.body : Code := (Tryz.f34.body).getD .skip
def f34.J1 (s27 : ByteArray) (k : Value → World → Prop) (w : World) : Prop :=
  k (.string s27) w
def f34.J1p (k : Value → World → Prop) : Act → World → Prop := PJ 40 [36] fun us ds w => un us fun v us => asStr v fun s27 => nl us (dn ds (f34.J1 s27 k w))
def f34.Q1 (k : Value → World → Prop) : Exit → Act → World → Prop := (Exit.inBlock 0 (Exit.then (f34.J1p k) (retQ Tryz.prog [.tmp 2] k)))
def f34.L2k (Kn1 : ByteArray → ByteArray → Int → World → Prop) : Act → World → Prop := PJ 40 [39, 36, 35] fun us ds w => un us fun v us => asStr v fun s2 => un us fun v us => asStr v fun s3 => un us fun v us => asI .i64 v fun n4 => nl us (dn ds (Kn1 s2 s3 n4 w))
def f34.J3 (s24 : ByteArray) (s25 : ByteArray) (n26 : Int) (Kn1 : ByteArray → ByteArray → Int → World → Prop) (k : Value → World → Prop) (w : World) : Prop :=
  Kn1 s24 s25 (IntKind.wrap .i64 (n26 + 1)) w
def f34.J4 (s20 : ByteArray) (s21 : ByteArray) (n22 : Int) (b23 : Bool) (Kn1 : ByteArray → ByteArray → Int → World → Prop) (k : Value → World → Prop) (w : World) : Prop :=
  brK b23 (RQ (0 ≤ (IntKind.wrap .i64 (n22 + 1) : Int) ∧ (IntKind.wrap .i64 (n22 + 1) : Int) ≤ ((s20.size : Nat) : Int)) (RQ (0 ≤ (n22 : Int) ∧ (n22 : Int) ≤ (((IntKind.wrap .i64 (n22 + 1) : Int).toNat : Nat) : Int)) (RQ (((s21.size + (s20.extract ((n22 : Int).toNat) ((IntKind.wrap .i64 (n22 + 1) : Int).toNat)).size : Nat) : Int) ≤ 9223372036854775807) (f34.J3 s20 (s21 ++ (s20.extract ((n22 : Int).toNat) ((IntKind.wrap .i64 (n22 + 1) : Int).toNat))) n22 Kn1 k w)))) (f34.J3 s20 s21 n22 Kn1 k w)
def f34.J4p (Kn1 : ByteArray → ByteArray → Int → World → Prop) (k : Value → World → Prop) : Act → World → Prop := PJ 40 [39, 36, 35, 8] fun us ds w => un us fun v us => asStr v fun s20 => un us fun v us => asStr v fun s21 => un us fun v us => asI .i64 v fun n22 => un us fun v us => asB v fun b23 => nl us (dn ds (f34.J4 s20 s21 n22 b23 Kn1 k w))
def f34.J3p (Kn1 : ByteArray → ByteArray → Int → World → Prop) (k : Value → World → Prop) : Act → World → Prop := PJ 40 [39, 36, 35] fun us ds w => un us fun v us => asStr v fun s24 => un us fun v us => asStr v fun s25 => un us fun v us => asI .i64 v fun n26 => nl us (dn ds (f34.J3 s24 s25 n26 Kn1 k w))
def f34.Q2 (Kn1 : ByteArray → ByteArray → Int → World → Prop) (k : Value → World → Prop) : Exit → Act → World → Prop := (Exit.then (f34.J4p Kn1 k) (Exit.inBlock 1 (Exit.then (f34.J3p Kn1 k) (Exit.then (f34.L2k Kn1) (f34.Q1 k)))))
def f34.Q3 (Kn1 : ByteArray → ByteArray → Int → World → Prop) (k : Value → World → Prop) : Exit → Act → World → Prop := (Exit.inBlock 1 (Exit.then (f34.J3p Kn1 k) (Exit.then (f34.L2k Kn1) (f34.Q1 k))))
def f34.Q4 (Kn1 : ByteArray → ByteArray → Int → World → Prop) (k : Value → World → Prop) : Exit → Act → World → Prop := (Exit.then (f34.L2k Kn1) (f34.Q1 k))
def f34.O7 (s16 : ByteArray) (s17 : ByteArray) (n18 : Int) (b19 : Bool) (Kn1 : ByteArray → ByteArray → Int → World → Prop) (k : Value → World → Prop) (w : World) : Prop :=
  brK b19 (f34.J4 s16 s17 n18 (decide (((s17.size : Nat) : Int) < 200)) Kn1 k w) (f34.J4 s16 s17 n18 false Kn1 k w)
def f34.O7p (Kn1 : ByteArray → ByteArray → Int → World → Prop) (k : Value → World → Prop) : Act → World → Prop := PJ 40 [39, 36, 35, 12] fun us ds w => un us fun v us => asStr v fun s16 => un us fun v us => asStr v fun s17 => un us fun v us => asI .i64 v fun n18 => un us fun v us => asB v fun b19 => nl us (dn ds (f34.O7 s16 s17 n18 b19 Kn1 k w))
def f34.O6 (s11 : ByteArray) (s12 : ByteArray) (n13 : Int) (b14 : Bool) (Kn1 : ByteArray → ByteArray → Int → World → Prop) (k : Value → World → Prop) (w : World) : Prop :=
  brK b14 (SIX s11 n13 (fun c15 => f34.O7 s11 s12 n13 (c15 != 13) Kn1 k w)) (f34.O7 s11 s12 n13 false Kn1 k w)
def f34.O6p (Kn1 : ByteArray → ByteArray → Int → World → Prop) (k : Value → World → Prop) : Act → World → Prop := PJ 40 [39, 36, 35, 18] fun us ds w => un us fun v us => asStr v fun s11 => un us fun v us => asStr v fun s12 => un us fun v us => asI .i64 v fun n13 => un us fun v us => asB v fun b14 => nl us (dn ds (f34.O6 s11 s12 n13 b14 Kn1 k w))
def f34.O5 (s6 : ByteArray) (s7 : ByteArray) (n8 : Int) (b9 : Bool) (Kn1 : ByteArray → ByteArray → Int → World → Prop) (k : Value → World → Prop) (w : World) : Prop :=
  brK b9 (SIX s6 n8 (fun c10 => f34.O6 s6 s7 n8 (c10 != 10) Kn1 k w)) (f34.O6 s6 s7 n8 false Kn1 k w)
def f34.O5p (Kn1 : ByteArray → ByteArray → Int → World → Prop) (k : Value → World → Prop) : Act → World → Prop := PJ 40 [39, 36, 35, 24] fun us ds w => un us fun v us => asStr v fun s6 => un us fun v us => asStr v fun s7 => un us fun v us => asI .i64 v fun n8 => un us fun v us => asB v fun b9 => nl us (dn ds (f34.O5 s6 s7 n8 b9 Kn1 k w))
def f34.Q5 (k : Value → World → Prop) : Exit → Act → World → Prop := (retQ Tryz.prog [.tmp 2] k)
def f34.L2 (s2 : ByteArray) (s3 : ByteArray) (n4 : Int) (Kn1 : ByteArray → ByteArray → Int → World → Prop) (k : Value → World → Prop) (w : World) : Prop :=
  brK (decide (n4 < ((s2.size : Nat) : Int))) (SIX s2 n4 (fun c5 => f34.O5 s2 s3 n4 (c5 != 0) Kn1 k w)) (f34.J1 s3 k w)
def f34.L2lp (s2 : ByteArray) (s3 : ByteArray) (n4 : Int) (k : Value → World → Prop) (w : World) : Prop := ∀ D : Nat → Value, (Code.loop (codeAt f34.body [1, 1, 0, 1, 0, 0])).wpIn (Wd none) 0 Tryz.prog (f34.Q1 k) (fr D 40 [39, 36, 35] [.string s2, .string s3, .int .i64 n4] []) w
def f34.L2p (k : Value → World → Prop) : Act → World → Prop := PJ 40 [39, 36, 35] fun us ds w => un us fun v us => asStr v fun s2 => un us fun v us => asStr v fun s3 => un us fun v us => asI .i64 v fun n4 => nl us (dn ds (f34.L2lp s2 s3 n4 k w))
def f34.L2K (s2 : ByteArray) (I : ByteArray → Int → World → Prop) (μ : ByteArray → Int → World → Nat) (m : Nat) (s2' : ByteArray) (s3' : ByteArray) (n4' : Int) (w : World) : Prop := (s2' = s2) ∧ I s3' n4' w ∧ μ s3' n4' w < m
theorem f34.J3_den (D : Nat → Value) (s24 : ByteArray) (s25 : ByteArray) (n26 : Int) (Kn1 : ByteArray → ByteArray → Int → World → Prop) (k : Value → World → Prop) (w : World) : pc Tryz.prog none .none (codeAt f34.body [1, 1, 0, 1, 0, 0, 1, 1]) (f34.Q4 Kn1 k) D 40 [39, 36, 35] [.string s24, .string s25, .int .i64 n26] [] w = f34.J3 s24 s25 n26 Kn1 k w := by kernel_rfl
theorem f34.J3_okc {Kn1 : ByteArray → ByteArray → Int → World → Prop} {k : Value → World → Prop} : okC Tryz.prog none .none (codeAt f34.body [1, 1, 0, 1, 0, 0, 1, 1]) (f34.Q4 Kn1 k) :=
  Eq.mpr (by kernel_rfl : okC Tryz.prog none .none (codeAt f34.body [1, 1, 0, 1, 0, 0, 1, 1]) (f34.Q4 Kn1 k) = (True)) (trivial)
theorem f34.J3_ok {Kn1 : ByteArray → ByteArray → Int → World → Prop} {k : Value → World → Prop} : OKJ Tryz.prog none (f34.J3p Kn1 k) (codeAt f34.body [1, 1, 0, 1, 0, 0, 1, 1]) (f34.Q4 Kn1 k) := by
  intro a w h
  obtain ⟨D, us, ds, rfl, h0⟩ := PJ_out h
  obtain ⟨v, us, rfl, h1⟩ := un_out h0
  obtain ⟨s24, rfl, h2⟩ := asStr_out h1
  obtain ⟨v, us, rfl, h3⟩ := un_out h2
  obtain ⟨s25, rfl, h4⟩ := asStr_out h3
  obtain ⟨v, us, rfl, h5⟩ := un_out h4
  obtain ⟨n26, rfl, h6⟩ := asI_out h5
  obtain ⟨rfl, h7⟩ := nl_out h6
  obtain ⟨rfl, h8⟩ := dn_out h7
  rw [← f34.J3_den D s24 s25 n26 Kn1 k w] at h8
  exact pc_wp Tryz.mixed f34.J3_okc h8
theorem f34.J4_den (D : Nat → Value) (s20 : ByteArray) (s21 : ByteArray) (n22 : Int) (b23 : Bool) (Kn1 : ByteArray → ByteArray → Int → World → Prop) (k : Value → World → Prop) (w : World) : pc Tryz.prog none .none (codeAt f34.body [1, 1, 0, 1, 0, 0, 1, 0, 0, 1]) (f34.Q3 Kn1 k) D 40 [39, 36, 35, 8] [.string s20, .string s21, .int .i64 n22, .bool b23] [] w = f34.J4 s20 s21 n22 b23 Kn1 k w := by kernel_rfl
theorem f34.J4_okc {Kn1 : ByteArray → ByteArray → Int → World → Prop} {k : Value → World → Prop} : okC Tryz.prog none .none (codeAt f34.body [1, 1, 0, 1, 0, 0, 1, 0, 0, 1]) (f34.Q3 Kn1 k) :=
  Eq.mpr (by kernel_rfl : okC Tryz.prog none .none (codeAt f34.body [1, 1, 0, 1, 0, 0, 1, 0, 0, 1]) (f34.Q3 Kn1 k) = (True)) (trivial)
theorem f34.J4_ok {Kn1 : ByteArray → ByteArray → Int → World → Prop} {k : Value → World → Prop} : OKJ Tryz.prog none (f34.J4p Kn1 k) (codeAt f34.body [1, 1, 0, 1, 0, 0, 1, 0, 0, 1]) (f34.Q3 Kn1 k) := by
  intro a w h
  obtain ⟨D, us, ds, rfl, h0⟩ := PJ_out h
  obtain ⟨v, us, rfl, h1⟩ := un_out h0
  obtain ⟨s20, rfl, h2⟩ := asStr_out h1
  obtain ⟨v, us, rfl, h3⟩ := un_out h2
  obtain ⟨s21, rfl, h4⟩ := asStr_out h3
  obtain ⟨v, us, rfl, h5⟩ := un_out h4
  obtain ⟨n22, rfl, h6⟩ := asI_out h5
  obtain ⟨v, us, rfl, h7⟩ := un_out h6
  obtain ⟨b23, rfl, h8⟩ := asB_out h7
  obtain ⟨rfl, h9⟩ := nl_out h8
  obtain ⟨rfl, h10⟩ := dn_out h9
  rw [← f34.J4_den D s20 s21 n22 b23 Kn1 k w] at h10
  exact pc_wp Tryz.mixed f34.J4_okc h10
theorem f34.O7_den (D : Nat → Value) (s16 : ByteArray) (s17 : ByteArray) (n18 : Int) (b19 : Bool) (Kn1 : ByteArray → ByteArray → Int → World → Prop) (k : Value → World → Prop) (w : World) : (spK (FR D 40 [39, 36, 35, 12] [.string s16, .string s17, .int .i64 n18, .bool b19]) fun l => denOps Tryz.prog (opsAt (codeAt f34.body [1, 1, 0, 1, 0, 0, 1, 0, 0, 0])) ((f34.Q2 Kn1 k) .normal) (((opsAt (codeAt f34.body [1, 1, 0, 1, 0, 0, 1, 0, 0, 0])).toList.drop 17).take 4) { tmps := l.toArray, defers := [] } w) = f34.O7 s16 s17 n18 b19 Kn1 k w := by kernel_rfl
theorem f34.O7_ok {Kn1 : ByteArray → ByteArray → Int → World → Prop} {k : Value → World → Prop} : OKR Tryz.prog none (opsAt (codeAt f34.body [1, 1, 0, 1, 0, 0, 1, 0, 0, 0])) (f34.O7p Kn1 k) 17 (f34.Q2 Kn1 k) := by
  intro a w h
  obtain ⟨D, us, ds, rfl, h0⟩ := PJ_out h
  obtain ⟨v, us, rfl, h1⟩ := un_out h0
  obtain ⟨s16, rfl, h2⟩ := asStr_out h1
  obtain ⟨v, us, rfl, h3⟩ := un_out h2
  obtain ⟨s17, rfl, h4⟩ := asStr_out h3
  obtain ⟨v, us, rfl, h5⟩ := un_out h4
  obtain ⟨n18, rfl, h6⟩ := asI_out h5
  obtain ⟨v, us, rfl, h7⟩ := un_out h6
  obtain ⟨b19, rfl, h8⟩ := asB_out h7
  obtain ⟨rfl, h9⟩ := nl_out h8
  obtain ⟨rfl, h10⟩ := dn_out h9
  rw [← f34.O7_den D s16 s17 n18 b19 Kn1 k w] at h10
  exact okr_of (m := 4) (okr_end (by kernel_rfl)) h10
theorem f34.O6_den (D : Nat → Value) (s11 : ByteArray) (s12 : ByteArray) (n13 : Int) (b14 : Bool) (Kn1 : ByteArray → ByteArray → Int → World → Prop) (k : Value → World → Prop) (w : World) : (spK (FR D 40 [39, 36, 35, 18] [.string s11, .string s12, .int .i64 n13, .bool b14]) fun l => denOps Tryz.prog (opsAt (codeAt f34.body [1, 1, 0, 1, 0, 0, 1, 0, 0, 0])) (f34.O7p Kn1 k) (((opsAt (codeAt f34.body [1, 1, 0, 1, 0, 0, 1, 0, 0, 0])).toList.drop 11).take 6) { tmps := l.toArray, defers := [] } w) = f34.O6 s11 s12 n13 b14 Kn1 k w := by kernel_rfl
theorem f34.O6_ok {Kn1 : ByteArray → ByteArray → Int → World → Prop} {k : Value → World → Prop} : OKR Tryz.prog none (opsAt (codeAt f34.body [1, 1, 0, 1, 0, 0, 1, 0, 0, 0])) (f34.O6p Kn1 k) 11 (f34.Q2 Kn1 k) := by
  intro a w h
  obtain ⟨D, us, ds, rfl, h0⟩ := PJ_out h
  obtain ⟨v, us, rfl, h1⟩ := un_out h0
  obtain ⟨s11, rfl, h2⟩ := asStr_out h1
  obtain ⟨v, us, rfl, h3⟩ := un_out h2
  obtain ⟨s12, rfl, h4⟩ := asStr_out h3
  obtain ⟨v, us, rfl, h5⟩ := un_out h4
  obtain ⟨n13, rfl, h6⟩ := asI_out h5
  obtain ⟨v, us, rfl, h7⟩ := un_out h6
  obtain ⟨b14, rfl, h8⟩ := asB_out h7
  obtain ⟨rfl, h9⟩ := nl_out h8
  obtain ⟨rfl, h10⟩ := dn_out h9
  rw [← f34.O6_den D s11 s12 n13 b14 Kn1 k w] at h10
  exact okr_of (m := 6) f34.O7_ok h10
theorem f34.O5_den (D : Nat → Value) (s6 : ByteArray) (s7 : ByteArray) (n8 : Int) (b9 : Bool) (Kn1 : ByteArray → ByteArray → Int → World → Prop) (k : Value → World → Prop) (w : World) : (spK (FR D 40 [39, 36, 35, 24] [.string s6, .string s7, .int .i64 n8, .bool b9]) fun l => denOps Tryz.prog (opsAt (codeAt f34.body [1, 1, 0, 1, 0, 0, 1, 0, 0, 0])) (f34.O6p Kn1 k) (((opsAt (codeAt f34.body [1, 1, 0, 1, 0, 0, 1, 0, 0, 0])).toList.drop 5).take 6) { tmps := l.toArray, defers := [] } w) = f34.O5 s6 s7 n8 b9 Kn1 k w := by kernel_rfl
theorem f34.O5_ok {Kn1 : ByteArray → ByteArray → Int → World → Prop} {k : Value → World → Prop} : OKR Tryz.prog none (opsAt (codeAt f34.body [1, 1, 0, 1, 0, 0, 1, 0, 0, 0])) (f34.O5p Kn1 k) 5 (f34.Q2 Kn1 k) := by
  intro a w h
  obtain ⟨D, us, ds, rfl, h0⟩ := PJ_out h
  obtain ⟨v, us, rfl, h1⟩ := un_out h0
  obtain ⟨s6, rfl, h2⟩ := asStr_out h1
  obtain ⟨v, us, rfl, h3⟩ := un_out h2
  obtain ⟨s7, rfl, h4⟩ := asStr_out h3
  obtain ⟨v, us, rfl, h5⟩ := un_out h4
  obtain ⟨n8, rfl, h6⟩ := asI_out h5
  obtain ⟨v, us, rfl, h7⟩ := un_out h6
  obtain ⟨b9, rfl, h8⟩ := asB_out h7
  obtain ⟨rfl, h9⟩ := nl_out h8
  obtain ⟨rfl, h10⟩ := dn_out h9
  rw [← f34.O5_den D s6 s7 n8 b9 Kn1 k w] at h10
  exact okr_of (m := 6) f34.O6_ok h10
theorem f34.J1_den (D : Nat → Value) (s27 : ByteArray) (k : Value → World → Prop) (w : World) : pc Tryz.prog none .none (codeAt f34.body [1, 1, 1]) (f34.Q5 k) D 40 [36] [.string s27] [] w = f34.J1 s27 k w := by kernel_rfl
theorem f34.J1_okc {k : Value → World → Prop} : okC Tryz.prog none .none (codeAt f34.body [1, 1, 1]) (f34.Q5 k) :=
  Eq.mpr (by kernel_rfl : okC Tryz.prog none .none (codeAt f34.body [1, 1, 1]) (f34.Q5 k) = (True)) (trivial)
theorem f34.J1_ok {k : Value → World → Prop} : OKJ Tryz.prog none (f34.J1p k) (codeAt f34.body [1, 1, 1]) (f34.Q5 k) := by
  intro a w h
  obtain ⟨D, us, ds, rfl, h0⟩ := PJ_out h
  obtain ⟨v, us, rfl, h1⟩ := un_out h0
  obtain ⟨s27, rfl, h2⟩ := asStr_out h1
  obtain ⟨rfl, h3⟩ := nl_out h2
  obtain ⟨rfl, h4⟩ := dn_out h3
  rw [← f34.J1_den D s27 k w] at h4
  exact pc_wp Tryz.mixed f34.J1_okc h4
theorem f34.L2_next {s2 : ByteArray} {I : ByteArray → Int → World → Prop} {μ : ByteArray → Int → World → Nat} {m : Nat} {s3 : ByteArray} {n4 : Int} {w : World} (hI : I s3 n4 w) (hlt : μ s3 n4 w < m) : f34.L2K s2 I μ m s2 s3 n4 w := ⟨rfl, hI, hlt⟩
theorem f34.L2_den (D : Nat → Value) (s2 : ByteArray) (s3 : ByteArray) (n4 : Int) (Kn1 : ByteArray → ByteArray → Int → World → Prop) (k : Value → World → Prop) (w : World) : pc Tryz.prog none (.seq none .none (.seq (some (f34.J3p Kn1 k)) (.block (.seq (some (f34.J4p Kn1 k)) (.reg 5 (f34.O5p Kn1 k)) .none)) .none)) (codeAt f34.body [1, 1, 0, 1, 0, 0]) (Exit.then (f34.L2k Kn1) (f34.Q1 k)) D 40 [39, 36, 35] [.string s2, .string s3, .int .i64 n4] [] w = f34.L2 s2 s3 n4 Kn1 k w := by kernel_rfl
theorem f34.L2_okc {Kn1 : ByteArray → ByteArray → Int → World → Prop} {k : Value → World → Prop} : okC Tryz.prog none (.seq none .none (.seq (some (f34.J3p Kn1 k)) (.block (.seq (some (f34.J4p Kn1 k)) (.reg 5 (f34.O5p Kn1 k)) .none)) .none)) (codeAt f34.body [1, 1, 0, 1, 0, 0]) (Exit.then (f34.L2k Kn1) (f34.Q1 k)) :=
  Eq.mpr (by kernel_rfl : okC Tryz.prog none (.seq none .none (.seq (some (f34.J3p Kn1 k)) (.block (.seq (some (f34.J4p Kn1 k)) (.reg 5 (f34.O5p Kn1 k)) .none)) .none)) (codeAt f34.body [1, 1, 0, 1, 0, 0]) (Exit.then (f34.L2k Kn1) (f34.Q1 k)) = (((True) ∧ (((((OKR Tryz.prog none (opsAt (codeAt f34.body [1, 1, 0, 1, 0, 0, 1, 0, 0, 0])) (f34.O5p Kn1 k) 5 (f34.Q2 Kn1 k)) ∧ OKJ Tryz.prog none (f34.J4p Kn1 k) (codeAt f34.body [1, 1, 0, 1, 0, 0, 1, 0, 0, 1]) (f34.Q3 Kn1 k))) ∧ OKJ Tryz.prog none (f34.J3p Kn1 k) (codeAt f34.body [1, 1, 0, 1, 0, 0, 1, 1]) (f34.Q4 Kn1 k)))))) (⟨trivial, ⟨⟨f34.O5_ok, f34.J4_ok⟩, f34.J3_ok⟩⟩)
theorem f34.L2_ok {k : Value → World → Prop} : OKJ Tryz.prog none (f34.L2p k) (codeAt f34.body [1, 1, 0, 1, 0]) (f34.Q1 k) := by
  intro a w h
  obtain ⟨D, us, ds, rfl, h0⟩ := PJ_out h
  obtain ⟨v, us, rfl, h1⟩ := un_out h0
  obtain ⟨s2, rfl, h2⟩ := asStr_out h1
  obtain ⟨v, us, rfl, h3⟩ := un_out h2
  obtain ⟨s3, rfl, h4⟩ := asStr_out h3
  obtain ⟨v, us, rfl, h5⟩ := un_out h4
  obtain ⟨n4, rfl, h6⟩ := asI_out h5
  obtain ⟨rfl, h7⟩ := nl_out h6
  obtain ⟨rfl, h8⟩ := dn_out h7
  rw [show (codeAt f34.body [1, 1, 0, 1, 0]) = Code.loop (codeAt f34.body [1, 1, 0, 1, 0, 0]) by kernel_rfl]
  exact h8 D
theorem f34.L2_rule {s2 : ByteArray} {k : Value → World → Prop} (I : ByteArray → Int → World → Prop) (μ : ByteArray → Int → World → Nat) {s3 : ByteArray} {n4 : Int} {w : World} (h0 : I s3 n4 w)
    (hr : ∀ (s3 : ByteArray) (n4 : Int) (w : World), I s3 n4 w → f34.L2 s2 s3 n4 (f34.L2K s2 I μ (μ s3 n4 w)) k w) : f34.L2lp s2 s3 n4 k w := by
  intro D0
  refine loop_ind (P := Tryz.prog) (fun m a w => ∃ s3 : ByteArray, ∃ n4 : Int, ∃ D : Nat → Value, a = fr D 40 [39, 36, 35] [.string s2, .string s3, .int .i64 n4] [] ∧ I s3 n4 w ∧ μ s3 n4 w = m) ?_ (μ s3 n4 w) ⟨_, _, D0, rfl, h0, rfl⟩
  rintro m a w ⟨s3, n4, D, rfl, hI, rfl⟩
  have h := hr s3 n4 w hI
  rw [← f34.L2_den D s2 s3 n4 (f34.L2K s2 I μ (μ s3 n4 w)) k w] at h
  refine then_mono (pc_wp Tryz.mixed f34.L2_okc h) ?_
  clear h
  intro a w h
  obtain ⟨D, us, ds, rfl, h0⟩ := PJ_out h
  obtain ⟨v, us, rfl, h1⟩ := un_out h0
  obtain ⟨s2', rfl, h2⟩ := asStr_out h1
  obtain ⟨v, us, rfl, h3⟩ := un_out h2
  obtain ⟨s3', rfl, h4⟩ := asStr_out h3
  obtain ⟨v, us, rfl, h5⟩ := un_out h4
  obtain ⟨n4', rfl, h6⟩ := asI_out h5
  obtain ⟨rfl, h7⟩ := nl_out h6
  obtain ⟨rfl, h8⟩ := dn_out h7
  obtain ⟨rfl, hI, hlt⟩ := h8
  exact ⟨_, hlt, _, _, D, rfl, hI, rfl⟩
def f34.b (s1 : ByteArray) (k : Value → World → Prop) (w : World) : Prop :=
  f34.L2lp s1 (⟨#[]⟩ : ByteArray) 0 k w
theorem f34.den (s1 : ByteArray) (k : Value → World → Prop) (w : World) : pc Tryz.prog none (.seq none .none (.seq none .none (.seq (some (f34.J1p k)) (.seq none .none (.block (.at (f34.L2p k)))) .none))) f34.body (retQ Tryz.prog [.tmp 2] k) (fun _ => undef) 40 [39] [.string s1] [] w = f34.b s1 k w := by kernel_rfl
theorem f34.okc {k : Value → World → Prop} : okC Tryz.prog none (.seq none .none (.seq none .none (.seq (some (f34.J1p k)) (.seq none .none (.block (.at (f34.L2p k)))) .none))) f34.body (retQ Tryz.prog [.tmp 2] k) :=
  Eq.mpr (by kernel_rfl : okC Tryz.prog none (.seq none .none (.seq none .none (.seq (some (f34.J1p k)) (.seq none .none (.block (.at (f34.L2p k)))) .none))) f34.body (retQ Tryz.prog [.tmp 2] k) = (((True) ∧ (((True) ∧ (((((True) ∧ (OKJ Tryz.prog none (f34.L2p k) (codeAt f34.body [1, 1, 0, 1, 0]) (f34.Q1 k)))) ∧ OKJ Tryz.prog none (f34.J1p k) (codeAt f34.body [1, 1, 1]) (f34.Q5 k)))))))) (⟨trivial, ⟨trivial, ⟨⟨trivial, f34.L2_ok⟩, f34.J1_ok⟩⟩⟩)
theorem f34.call {s1 : ByteArray} {k : Value → World → Prop} {w : World} (h : f34.b s1 k w) : CALL Tryz.prog 34 #[.string s1] k w :=
  calls_of_pc Tryz.mixed Tryz.func34 (by kernel_rfl : Tryz.f34.body = some f34.body) (Tryz.call34 _ _) (by kernel_rfl : #[.string s1] ++ Array.replicate (Tryz.f34.ntmps - (#[.string s1] : Array Value).size) undef = (FR (fun _ => undef) 40 [39] [.string s1]).toArray) (by kernel_rfl : Tryz.f34.results.toList = [.tmp 2]) f34.okc ((f34.den s1 k w).symm ▸ h)

/-! (*rollcall/rollcallref19.Room).Add -/
noncomputable def f36.body : Code := (Tryz.f36.body).getD .skip
def f36.b (p1 : Option Addr) (n2 : Int) (b3 : Bool) (k : Value → World → Prop) (w : World) : Prop :=
  CALL Tryz.prog 17 #[.pointer p1, .int .i64 n2] (fun v4 w => ∃ n5 : Int, v4 = .int .i64 n5 ∧ brK (decide ((0 : Int) ≤ n5)) (k (.tuple #[]) w) (AL (.cells #[] 39) (fun q6 w => NN p1 (fun a7 => LD slv (Addr.add a7 2) (fun l8 w => APP 39 3 16 #[.int .i64 0, .bool false, .bool false] ((some ⟨q6, 0, none⟩), 0, 0) l8.2.1 (fun w => cellsOfS w l8 (l8.2.1 * 3)) (fun l9 w => AL (.cells #[.int .i64 n2, .bool b3, .bool false] 39) (fun q10 w => APP 39 3 16 #[.int .i64 0, .bool false, .bool false] l9 1 (fun w => cellsOfS w ((some ⟨q10, 0, none⟩), 1, 1) (1 * 3)) (fun l11 w => NN p1 (fun a12 => ST (Addr.add (Addr.add a12 2) 0) (slv l11) (fun w => NN p1 (fun a13 => LD slv (Addr.add a13 8) (fun l14 w => CALL Tryz.prog 61 #[slv l14, .int .i64 n2] (fun v15 w => ∃ l16 : Sl, v15 = slv l16 ∧ NN p1 (fun a17 => ST (Addr.add (Addr.add a17 8) 0) (slv l16) (fun w => k (.tuple #[]) w) w)) w) w)) w)) w) w) w) w)) w)) w
theorem f36.den (p1 : Option Addr) (n2 : Int) (b3 : Bool) (k : Value → World → Prop) (w : World) : pc Tryz.prog none .none f36.body (retQ Tryz.prog [] k) (fun _ => undef) 33 [32, 31, 30] [.pointer p1, .int .i64 n2, .bool b3] [] w = f36.b p1 n2 b3 k w := by kernel_rfl
theorem f36.okc {k : Value → World → Prop} : okC Tryz.prog none .none f36.body (retQ Tryz.prog [] k) :=
  Eq.mpr (by kernel_rfl : okC Tryz.prog none .none f36.body (retQ Tryz.prog [] k) = (True)) (trivial)
theorem f36.call {p1 : Option Addr} {n2 : Int} {b3 : Bool} {k : Value → World → Prop} {w : World} (h : f36.b p1 n2 b3 k w) : CALL Tryz.prog 36 #[.pointer p1, .int .i64 n2, .bool b3] k w :=
  calls_of_pc Tryz.mixed Tryz.func36 (by kernel_rfl : Tryz.f36.body = some f36.body) (Tryz.call36 _ _) (by kernel_rfl : #[.pointer p1, .int .i64 n2, .bool b3] ++ Array.replicate (Tryz.f36.ntmps - (#[.pointer p1, .int .i64 n2, .bool b3] : Array Value).size) undef = (FR (fun _ => undef) 33 [32, 31, 30] [.pointer p1, .int .i64 n2, .bool b3]).toArray) (by kernel_rfl : Tryz.f36.results.toList = []) f36.okc ((f36.den p1 n2 b3 k w).symm ▸ h)

/-! (*rollcall/room.Room).Bans -/
noncomputable def f38.body : Code := (Tryz.f38.body).getD .skip
def f38.b (p1 : Option Addr) (k : Value → World → Prop) (w : World) : Prop :=
  brK p1.isNone (k (.func (.func 63) #[] #[]) w) (NN p1 (fun a2 => LD slv (Addr.add a2 7) (fun l3 w => CALL Tryz.prog 65 #[slv l3] (fun v4 w => ∃ l5 : Sl, v4 = slv l5 ∧ CALL Tryz.prog 64 #[slv l5] (fun v6 w => ∃ v7 : Value, v6 = v7 ∧ k (v7) w) w) w) w))
theorem f38.den (p1 : Option Addr) (k : Value → World → Prop) (w : World) : pc Tryz.prog none .none f38.body (retQ Tryz.prog [.tmp 2] k) (fun _ => undef) 11 [10] [.pointer p1] [] w = f38.b p1 k w := by kernel_rfl
theorem f38.okc {k : Value → World → Prop} : okC Tryz.prog none .none f38.body (retQ Tryz.prog [.tmp 2] k) :=
  Eq.mpr (by kernel_rfl : okC Tryz.prog none .none f38.body (retQ Tryz.prog [.tmp 2] k) = (True)) (trivial)
theorem f38.call {p1 : Option Addr} {k : Value → World → Prop} {w : World} (h : f38.b p1 k w) : CALL Tryz.prog 38 #[.pointer p1] k w :=
  calls_of_pc Tryz.mixed Tryz.func38 (by kernel_rfl : Tryz.f38.body = some f38.body) (Tryz.call38 _ _) (by kernel_rfl : #[.pointer p1] ++ Array.replicate (Tryz.f38.ntmps - (#[.pointer p1] : Array Value).size) undef = (FR (fun _ => undef) 11 [10] [.pointer p1]).toArray) (by kernel_rfl : Tryz.f38.results.toList = [.tmp 2]) f38.okc ((f38.den p1 k w).symm ▸ h)

/-! (*rollcall/room.Room).at -/
noncomputable def f39.body : Code := (Tryz.f39.body).getD .skip
def f39.b (p1 : Option Addr) (n2 : Int) (k : Value → World → Prop) (w : World) : Prop :=
  brK p1.isNone (k (.tuple #[.int .i64 0, .bool false]) w) (NN p1 (fun a3 => LD slv (Addr.add a3 2) (fun l4 w => CALL Tryz.prog 66 #[slv l4, .int .i64 n2, .func (.func 67) #[] #[]] (fun v5 w => ∃ n6 : Int, ∃ b7 : Bool, v5 = .tuple #[.int .i64 n6, .bool b7] ∧ k (.tuple #[.int .i64 n6, .bool b7]) w) w) w))
theorem f39.den (p1 : Option Addr) (n2 : Int) (k : Value → World → Prop) (w : World) : pc Tryz.prog none .none f39.body (retQ Tryz.prog [.tmp 4, .tmp 5] k) (fun _ => undef) 16 [15, 14] [.pointer p1, .int .i64 n2] [] w = f39.b p1 n2 k w := by kernel_rfl
theorem f39.okc {k : Value → World → Prop} : okC Tryz.prog none .none f39.body (retQ Tryz.prog [.tmp 4, .tmp 5] k) :=
  Eq.mpr (by kernel_rfl : okC Tryz.prog none .none f39.body (retQ Tryz.prog [.tmp 4, .tmp 5] k) = (True)) (trivial)
theorem f39.call {p1 : Option Addr} {n2 : Int} {k : Value → World → Prop} {w : World} (h : f39.b p1 n2 k w) : CALL Tryz.prog 39 #[.pointer p1, .int .i64 n2] k w :=
  calls_of_pc Tryz.mixed Tryz.func39 (by kernel_rfl : Tryz.f39.body = some f39.body) (Tryz.call39 _ _) (by kernel_rfl : #[.pointer p1, .int .i64 n2] ++ Array.replicate (Tryz.f39.ntmps - (#[.pointer p1, .int .i64 n2] : Array Value).size) undef = (FR (fun _ => undef) 16 [15, 14] [.pointer p1, .int .i64 n2]).toArray) (by kernel_rfl : Tryz.f39.results.toList = [.tmp 4, .tmp 5]) f39.okc ((f39.den p1 n2 k w).symm ▸ h)

/-! (*rollcall/room.Room).flag -/
noncomputable def f40.body : Code := (Tryz.f40.body).getD .skip
def f40.Q1 (k : Value → World → Prop) : Exit → Act → World → Prop := (retQ Tryz.prog [.cell 4 24] k)
def f40.J1 (p22 : Option Addr) (q23 : Nat) (q24 : Nat) (n25 : Int) (k : Value → World → Prop) (w : World) : Prop :=
  NN p22 (fun a26 => LD (Value.int .i64) (Addr.add a26 4) (fun n27 w => brK (n27 == n25) (ST (Addr.add ⟨q24, 0, none⟩ 0) (.bool false) (fun w => ST (Addr.add ⟨q24, 0, none⟩ 1) (.int .u8 0) (fun w => ST (Addr.add ⟨q24, 0, none⟩ 2) (.string (⟨#[]⟩ : ByteArray)) (fun w => LD Value.bool (Addr.add ⟨q24, 0, none⟩ 0) (fun b28 w => LD (Value.int .u8) (Addr.add ⟨q24, 0, none⟩ 1) (fun n29 w => LD Value.string (Addr.add ⟨q24, 0, none⟩ 2) (fun s30 w => k (.agg #[.bool b28, .int .u8 n29, .string s30]) w) w) w) w) w) w) w) (LD Value.bool (Addr.add ⟨q23, 0, none⟩ 0) (fun b31 w => LD (Value.int .u8) (Addr.add ⟨q23, 0, none⟩ 1) (fun n32 w => ST (Addr.add ⟨q24, 0, none⟩ 0) (.bool b31) (fun w => ST (Addr.add ⟨q24, 0, none⟩ 1) (.int .u8 n32) (fun w => ST (Addr.add ⟨q24, 0, none⟩ 2) (.string (⟨#[]⟩ : ByteArray)) (fun w => LD Value.bool (Addr.add ⟨q24, 0, none⟩ 0) (fun b33 w => LD (Value.int .u8) (Addr.add ⟨q24, 0, none⟩ 1) (fun n34 w => LD Value.string (Addr.add ⟨q24, 0, none⟩ 2) (fun s35 w => k (.agg #[.bool b33, .int .u8 n34, .string s35]) w) w) w) w) w) w) w) w) w)) w)
def f40.J1p (k : Value → World → Prop) : Act → World → Prop := PJ 44 [43, 40, 39, 38] fun us ds w => un us fun v us => asP v fun p22 => un us fun v us => asBox v fun q23 => un us fun v us => asBox v fun q24 => un us fun v us => asI .i64 v fun n25 => nl us (dn ds (f40.J1 p22 q23 q24 n25 k w))
theorem f40.J1_den (D : Nat → Value) (p22 : Option Addr) (q23 : Nat) (q24 : Nat) (n25 : Int) (k : Value → World → Prop) (w : World) : pc Tryz.prog none .none (codeAt f40.body [1, 1, 1, 1]) (f40.Q1 k) D 44 [43, 40, 39, 38] [.pointer p22, .pointer (some ⟨q23, 0, none⟩), .pointer (some ⟨q24, 0, none⟩), .int .i64 n25] [] w = f40.J1 p22 q23 q24 n25 k w := by kernel_rfl
theorem f40.J1_okc {k : Value → World → Prop} : okC Tryz.prog none .none (codeAt f40.body [1, 1, 1, 1]) (f40.Q1 k) :=
  Eq.mpr (by kernel_rfl : okC Tryz.prog none .none (codeAt f40.body [1, 1, 1, 1]) (f40.Q1 k) = (True)) (trivial)
theorem f40.J1_ok {k : Value → World → Prop} : OKJ Tryz.prog none (f40.J1p k) (codeAt f40.body [1, 1, 1, 1]) (f40.Q1 k) := by
  intro a w h
  obtain ⟨D, us, ds, rfl, h0⟩ := PJ_out h
  obtain ⟨v, us, rfl, h1⟩ := un_out h0
  obtain ⟨p22, rfl, h2⟩ := asP_out h1
  obtain ⟨v, us, rfl, h3⟩ := un_out h2
  obtain ⟨q23, rfl, h4⟩ := asBox_out h3
  obtain ⟨v, us, rfl, h5⟩ := un_out h4
  obtain ⟨q24, rfl, h6⟩ := asBox_out h5
  obtain ⟨v, us, rfl, h7⟩ := un_out h6
  obtain ⟨n25, rfl, h8⟩ := asI_out h7
  obtain ⟨rfl, h9⟩ := nl_out h8
  obtain ⟨rfl, h10⟩ := dn_out h9
  rw [← f40.J1_den D p22 q23 q24 n25 k w] at h10
  exact pc_wp Tryz.mixed f40.J1_okc h10
def f40.b (p1 : Option Addr) (b2 : Bool) (n3 : Int) (s4 : ByteArray) (k : Value → World → Prop) (w : World) : Prop :=
  AL (.cells #[.bool b2, .int .u8 n3, .string s4] 24) (fun q5 w => AL (.cells #[.bool false, .int .u8 0, .string (⟨#[]⟩ : ByteArray)] 24) (fun q6 w => NN p1 (fun a7 => LD (Value.int .i64) (Addr.add a7 4) (fun n8 w => DRC (fun C w => NN p1 (fun a9 => STL C (Value.int .i64) (Addr.add a9 4) (fun n10 => STL C (Value.int .u8) (Addr.add ⟨q5, 0, none⟩ 1) (fun n11 => CALL Tryz.prog 49 #[.int .u8 n11] (fun v12 w => ∃ n13 : Int, v12 = .int .i64 n13 ∧ C w ∧ NN p1 (fun a14 => ST (Addr.add (Addr.add a14 4) 0) (.int .i64 (intBit .andNot .i64 n10 n13)) (fun w => LD Value.bool (Addr.add ⟨q5, 0, none⟩ 0) (fun b15 w => brK b15 (DRC (fun C w => NN p1 (fun a16 => STL C (Value.int .i64) (Addr.add a16 4) (fun n17 => STL C (Value.int .u8) (Addr.add ⟨q5, 0, none⟩ 1) (fun n18 => CALL Tryz.prog 49 #[.int .u8 n18] (fun v19 w => ∃ n20 : Int, v19 = .int .i64 n20 ∧ C w ∧ NN p1 (fun a21 => ST (Addr.add (Addr.add a21 4) 0) (.int .i64 (intBit .or .i64 n17 n20)) (fun w => f40.J1 p1 q5 q6 n8 k w) w)) w)))) w) (f40.J1 p1 q5 q6 n8 k w)) w) w)) w)))) w) w)) w) w
theorem f40.den (p1 : Option Addr) (b2 : Bool) (n3 : Int) (s4 : ByteArray) (k : Value → World → Prop) (w : World) : pc Tryz.prog none (.seq none .none (.seq none .none (.seq none .none (.seq (some (f40.J1p k)) .none .none)))) f40.body (retQ Tryz.prog [.cell 4 24] k) (fun _ => undef) 44 [43, 42] [.pointer p1, .agg #[.bool b2, .int .u8 n3, .string s4]] [] w = f40.b p1 b2 n3 s4 k w := by kernel_rfl
theorem f40.okc {k : Value → World → Prop} : okC Tryz.prog none (.seq none .none (.seq none .none (.seq none .none (.seq (some (f40.J1p k)) .none .none)))) f40.body (retQ Tryz.prog [.cell 4 24] k) :=
  Eq.mpr (by kernel_rfl : okC Tryz.prog none (.seq none .none (.seq none .none (.seq none .none (.seq (some (f40.J1p k)) .none .none)))) f40.body (retQ Tryz.prog [.cell 4 24] k) = (((True) ∧ (((True) ∧ (((True) ∧ (((True) ∧ OKJ Tryz.prog none (f40.J1p k) (codeAt f40.body [1, 1, 1, 1]) (f40.Q1 k)))))))))) (⟨trivial, ⟨trivial, ⟨trivial, ⟨trivial, f40.J1_ok⟩⟩⟩⟩)
theorem f40.call {p1 : Option Addr} {b2 : Bool} {n3 : Int} {s4 : ByteArray} {k : Value → World → Prop} {w : World} (h : f40.b p1 b2 n3 s4 k w) : CALL Tryz.prog 40 #[.pointer p1, .agg #[.bool b2, .int .u8 n3, .string s4]] k w :=
  calls_of_pc Tryz.mixed Tryz.func40 (by kernel_rfl : Tryz.f40.body = some f40.body) (Tryz.call40 _ _) (by kernel_rfl : #[.pointer p1, .agg #[.bool b2, .int .u8 n3, .string s4]] ++ Array.replicate (Tryz.f40.ntmps - (#[.pointer p1, .agg #[.bool b2, .int .u8 n3, .string s4]] : Array Value).size) undef = (FR (fun _ => undef) 44 [43, 42] [.pointer p1, .agg #[.bool b2, .int .u8 n3, .string s4]]).toArray) (by kernel_rfl : Tryz.f40.results.toList = [.cell 4 24]) f40.okc ((f40.den p1 b2 n3 s4 k w).symm ▸ h)

/-! (*rollcall/room.Room).rank -/
noncomputable def f41.body : Code := (Tryz.f41.body).getD .skip
def f41.Q1 (k : Value → World → Prop) : Exit → Act → World → Prop := (retQ Tryz.prog [.cell 6 24, .tmp 7] k)
def f41.J1 (q18 : Nat) (q19 : Nat) (p20 : Option Addr) (k : Value → World → Prop) (w : World) : Prop :=
  DR (fun w => NN p20 (fun a21 => LD Value.bool a21 (fun b22 w => LD Value.bool (Addr.add ⟨q18, 0, none⟩ 0) (fun b23 w => brK (b22 == b23) (ST (Addr.add ⟨q19, 0, none⟩ 0) (.bool false) (fun w => ST (Addr.add ⟨q19, 0, none⟩ 1) (.int .u8 0) (fun w => ST (Addr.add ⟨q19, 0, none⟩ 2) (.string (⟨#[]⟩ : ByteArray)) (fun w => LD Value.bool (Addr.add ⟨q19, 0, none⟩ 0) (fun b24 w => LD (Value.int .u8) (Addr.add ⟨q19, 0, none⟩ 1) (fun n25 w => LD Value.string (Addr.add ⟨q19, 0, none⟩ 2) (fun s26 w => k (.tuple #[.agg #[.bool b24, .int .u8 n25, .string s26], .int .i64 0]) w) w) w) w) w) w) w) (LD Value.bool (Addr.add ⟨q18, 0, none⟩ 0) (fun b27 w => NN p20 (fun a28 => ST (Addr.add a28 0) (.bool b27) (fun w => LD Value.bool (Addr.add ⟨q18, 0, none⟩ 0) (fun b29 w => LD (Value.int .u8) (Addr.add ⟨q18, 0, none⟩ 1) (fun n30 w => LD Value.string (Addr.add ⟨q18, 0, none⟩ 2) (fun s31 w => ST (Addr.add ⟨q19, 0, none⟩ 0) (.bool b29) (fun w => ST (Addr.add ⟨q19, 0, none⟩ 1) (.int .u8 n30) (fun w => ST (Addr.add ⟨q19, 0, none⟩ 2) (.string s31) (fun w => LD Value.bool (Addr.add ⟨q19, 0, none⟩ 0) (fun b32 w => LD (Value.int .u8) (Addr.add ⟨q19, 0, none⟩ 1) (fun n33 w => LD Value.string (Addr.add ⟨q19, 0, none⟩ 2) (fun s34 w => k (.tuple #[.agg #[.bool b32, .int .u8 n33, .string s34], .int .i64 0]) w) w) w) w) w) w) w) w) w) w) w)) w)) w) w)) w
def f41.J1p (k : Value → World → Prop) : Act → World → Prop := PJ 48 [43, 41, 36] fun us ds w => un us fun v us => asBox v fun q18 => un us fun v us => asBox v fun q19 => un us fun v us => asP v fun p20 => nl us (dn ds (f41.J1 q18 q19 p20 k w))
theorem f41.J1_den (D : Nat → Value) (q18 : Nat) (q19 : Nat) (p20 : Option Addr) (k : Value → World → Prop) (w : World) : pc Tryz.prog none .none (codeAt f41.body [1, 1, 1, 1, 1, 1]) (f41.Q1 k) D 48 [43, 41, 36] [.pointer (some ⟨q18, 0, none⟩), .pointer (some ⟨q19, 0, none⟩), .pointer p20] [] w = f41.J1 q18 q19 p20 k w := by kernel_rfl
theorem f41.J1_okc {k : Value → World → Prop} : okC Tryz.prog none .none (codeAt f41.body [1, 1, 1, 1, 1, 1]) (f41.Q1 k) :=
  Eq.mpr (by kernel_rfl : okC Tryz.prog none .none (codeAt f41.body [1, 1, 1, 1, 1, 1]) (f41.Q1 k) = (True)) (trivial)
theorem f41.J1_ok {k : Value → World → Prop} : OKJ Tryz.prog none (f41.J1p k) (codeAt f41.body [1, 1, 1, 1, 1, 1]) (f41.Q1 k) := by
  intro a w h
  obtain ⟨D, us, ds, rfl, h0⟩ := PJ_out h
  obtain ⟨v, us, rfl, h1⟩ := un_out h0
  obtain ⟨q18, rfl, h2⟩ := asBox_out h1
  obtain ⟨v, us, rfl, h3⟩ := un_out h2
  obtain ⟨q19, rfl, h4⟩ := asBox_out h3
  obtain ⟨v, us, rfl, h5⟩ := un_out h4
  obtain ⟨p20, rfl, h6⟩ := asP_out h5
  obtain ⟨rfl, h7⟩ := nl_out h6
  obtain ⟨rfl, h8⟩ := dn_out h7
  rw [← f41.J1_den D q18 q19 p20 k w] at h8
  exact pc_wp Tryz.mixed f41.J1_okc h8
def f41.b (p1 : Option Addr) (b2 : Bool) (n3 : Int) (s4 : ByteArray) (n5 : Int) (k : Value → World → Prop) (w : World) : Prop :=
  AL (.cells #[.bool b2, .int .u8 n3, .string s4] 24) (fun q6 w => AL (.cells #[.bool false, .int .u8 0, .string (⟨#[]⟩ : ByteArray)] 24) (fun q7 w => CALL Tryz.prog 39 #[.pointer p1, .int .i64 n5] (fun v8 w => ∃ n9 : Int, ∃ b10 : Bool, v8 = .tuple #[.int .i64 n9, .bool b10] ∧ brK (!b10) (ST (Addr.add ⟨q7, 0, none⟩ 0) (.bool false) (fun w => ST (Addr.add ⟨q7, 0, none⟩ 1) (.int .u8 0) (fun w => ST (Addr.add ⟨q7, 0, none⟩ 2) (.string (⟨#[]⟩ : ByteArray)) (fun w => LD Value.bool (Addr.add ⟨q7, 0, none⟩ 0) (fun b11 w => LD (Value.int .u8) (Addr.add ⟨q7, 0, none⟩ 1) (fun n12 w => LD Value.string (Addr.add ⟨q7, 0, none⟩ 2) (fun s13 w => k (.tuple #[.agg #[.bool b11, .int .u8 n12, .string s13], .int .i64 441]) w) w) w) w) w) w) w) (NN p1 (fun a14 => LD slv (Addr.add a14 2) (fun l15 w => IX l15 n9 3 (fun a16 => LD (Value.int .u8) (Addr.add ⟨q6, 0, none⟩ 1) (fun n17 w => brK (n17 == 118) (f41.J1 q6 q7 (some (Addr.add a16 2)) k w) (f41.J1 q6 q7 (some (Addr.add a16 1)) k w)) w)) w))) w) w) w
theorem f41.den (p1 : Option Addr) (b2 : Bool) (n3 : Int) (s4 : ByteArray) (n5 : Int) (k : Value → World → Prop) (w : World) : pc Tryz.prog none (.seq none .none (.seq none .none (.seq none .none (.seq none .none (.seq none .none (.seq (some (f41.J1p k)) .none .none)))))) f41.body (retQ Tryz.prog [.cell 6 24, .tmp 7] k) (fun _ => undef) 48 [47, 46, 45] [.pointer p1, .agg #[.bool b2, .int .u8 n3, .string s4], .int .i64 n5] [] w = f41.b p1 b2 n3 s4 n5 k w := by kernel_rfl
theorem f41.okc {k : Value → World → Prop} : okC Tryz.prog none (.seq none .none (.seq none .none (.seq none .none (.seq none .none (.seq none .none (.seq (some (f41.J1p k)) .none .none)))))) f41.body (retQ Tryz.prog [.cell 6 24, .tmp 7] k) :=
  Eq.mpr (by kernel_rfl : okC Tryz.prog none (.seq none .none (.seq none .none (.seq none .none (.seq none .none (.seq none .none (.seq (some (f41.J1p k)) .none .none)))))) f41.body (retQ Tryz.prog [.cell 6 24, .tmp 7] k) = (((True) ∧ (((True) ∧ (((True) ∧ (((True) ∧ (((True) ∧ (((True) ∧ OKJ Tryz.prog none (f41.J1p k) (codeAt f41.body [1, 1, 1, 1, 1, 1]) (f41.Q1 k)))))))))))))) (⟨trivial, ⟨trivial, ⟨trivial, ⟨trivial, ⟨trivial, ⟨trivial, f41.J1_ok⟩⟩⟩⟩⟩⟩)
theorem f41.call {p1 : Option Addr} {b2 : Bool} {n3 : Int} {s4 : ByteArray} {n5 : Int} {k : Value → World → Prop} {w : World} (h : f41.b p1 b2 n3 s4 n5 k w) : CALL Tryz.prog 41 #[.pointer p1, .agg #[.bool b2, .int .u8 n3, .string s4], .int .i64 n5] k w :=
  calls_of_pc Tryz.mixed Tryz.func41 (by kernel_rfl : Tryz.f41.body = some f41.body) (Tryz.call41 _ _) (by kernel_rfl : #[.pointer p1, .agg #[.bool b2, .int .u8 n3, .string s4], .int .i64 n5] ++ Array.replicate (Tryz.f41.ntmps - (#[.pointer p1, .agg #[.bool b2, .int .u8 n3, .string s4], .int .i64 n5] : Array Value).size) undef = (FR (fun _ => undef) 48 [47, 46, 45] [.pointer p1, .agg #[.bool b2, .int .u8 n3, .string s4], .int .i64 n5]).toArray) (by kernel_rfl : Tryz.f41.results.toList = [.cell 6 24, .tmp 7]) f41.okc ((f41.den p1 b2 n3 s4 n5 k w).symm ▸ h)
end Go.Proofs.YtlefdgplobifiaaGreatDoor
