/- Printed by gen2.py: the functions' bodies over the primitives of Den, in pieces. -/
import Derived.Test.YtlefdgplobifiaaGreatDoorCut
import Derived.Test.YtlefdgplobifiaaGreatDoorKit
namespace Go.Proofs.YtlefdgplobifiaaGreatDoor
open Go
set_option maxRecDepth 100000
set_option linter.unusedVariables false
/-! rollcall/rollcalllaw19.RoomNone -/
noncomputable def f6.body : Code := (Tryz.f6.body).getD .skip
def f6.Q1 (k : Value → World → Prop) : Exit → Act → World → Prop := (Exit.then (den Tryz.prog none (codeAt f6.body [1, 1, 1, 1, 1, 1, 1, 1, 1, 1, 1]) (retQ Tryz.prog [.tmp 2] k)) (retQ Tryz.prog [.tmp 2] k))
def f6.O12 (q115 : Nat) (p116 : Option Addr) (b117 : Bool) (k : Value → World → Prop) (w : World) : Prop :=
  brK b117 (LD (Value.int .i64) (Addr.add ⟨q115, 0, none⟩ 1) (fun n118 w => LD Value.string (Addr.add ⟨q115, 0, none⟩ 3) (fun s119 w => CALL Tryz.prog 25 #[.pointer p116, .int .i64 n118, .string s119] (fun v120 w => ∃ b121 : Bool, v120 = .bool b121 ∧ k (.bool (!b121)) w) w) w) w) (k (.bool false) w)
def f6.O12p (k : Value → World → Prop) : Act → World → Prop := PJ 119 [117, 115, 8] fun us ds w => un us fun v us => asBox v fun q115 => un us fun v us => asP v fun p116 => un us fun v us => asB v fun b117 => nl us (dn ds (f6.O12 q115 p116 b117 k w))
def f6.O11 (q108 : Nat) (p109 : Option Addr) (b110 : Bool) (k : Value → World → Prop) (w : World) : Prop :=
  brK b110 (LD (Value.int .i64) (Addr.add ⟨q108, 0, none⟩ 1) (fun n111 w => LD Value.string (Addr.add ⟨q108, 0, none⟩ 3) (fun s112 w => CALL Tryz.prog 31 #[.pointer p109, .int .i64 n111, .string s112, .string (⟨#[]⟩ : ByteArray)] (fun v113 w => ∃ n114 : Int, v113 = .int .i64 n114 ∧ f6.O12 q108 p109 (n114 == 403) k w) w) w) w) (f6.O12 q108 p109 false k w)
def f6.O11p (k : Value → World → Prop) : Act → World → Prop := PJ 119 [117, 115, 17] fun us ds w => un us fun v us => asBox v fun q108 => un us fun v us => asP v fun p109 => un us fun v us => asB v fun b110 => nl us (dn ds (f6.O11 q108 p109 b110 k w))
def f6.O10 (q103 : Nat) (p104 : Option Addr) (b105 : Bool) (k : Value → World → Prop) (w : World) : Prop :=
  brK b105 (CALL Tryz.prog 12 #[.pointer p104, .bool true] (fun v106 w => ∃ l107 : Sl, v106 = slv l107 ∧ f6.O11 q103 p104 (((l107.2.1 : Nat) : Int) == 0) k w) w) (f6.O11 q103 p104 false k w)
def f6.O10p (k : Value → World → Prop) : Act → World → Prop := PJ 119 [117, 115, 23] fun us ds w => un us fun v us => asBox v fun q103 => un us fun v us => asP v fun p104 => un us fun v us => asB v fun b105 => nl us (dn ds (f6.O10 q103 p104 b105 k w))
def f6.O9 (q98 : Nat) (p99 : Option Addr) (b100 : Bool) (k : Value → World → Prop) (w : World) : Prop :=
  brK b100 (CALL Tryz.prog 23 #[.pointer p99, .int .u8 110] (fun v101 w => ∃ b102 : Bool, v101 = .bool b102 ∧ f6.O10 q98 p99 (!b102) k w) w) (f6.O10 q98 p99 false k w)
def f6.O9p (k : Value → World → Prop) : Act → World → Prop := PJ 119 [117, 115, 28] fun us ds w => un us fun v us => asBox v fun q98 => un us fun v us => asP v fun p99 => un us fun v us => asB v fun b100 => nl us (dn ds (f6.O9 q98 p99 b100 k w))
def f6.O8 (q93 : Nat) (p94 : Option Addr) (b95 : Bool) (k : Value → World → Prop) (w : World) : Prop :=
  brK b95 (CALL Tryz.prog 21 #[.pointer p94] (fun v96 w => ∃ s97 : ByteArray, v96 = .string s97 ∧ f6.O9 q93 p94 (decide ((s97 : ByteArray) = (⟨#[]⟩ : ByteArray))) k w) w) (f6.O9 q93 p94 false k w)
def f6.O8p (k : Value → World → Prop) : Act → World → Prop := PJ 119 [117, 115, 33] fun us ds w => un us fun v us => asBox v fun q93 => un us fun v us => asP v fun p94 => un us fun v us => asB v fun b95 => nl us (dn ds (f6.O8 q93 p94 b95 k w))
def f6.O7 (q88 : Nat) (p89 : Option Addr) (b90 : Bool) (k : Value → World → Prop) (w : World) : Prop :=
  brK b90 (CALL Tryz.prog 20 #[.pointer p89] (fun v91 w => ∃ s92 : ByteArray, v91 = .string s92 ∧ f6.O8 q88 p89 (decide ((s92 : ByteArray) = (⟨#[]⟩ : ByteArray))) k w) w) (f6.O8 q88 p89 false k w)
def f6.O7p (k : Value → World → Prop) : Act → World → Prop := PJ 119 [117, 115, 38] fun us ds w => un us fun v us => asBox v fun q88 => un us fun v us => asP v fun p89 => un us fun v us => asB v fun b90 => nl us (dn ds (f6.O7 q88 p89 b90 k w))
def f6.O6 (q83 : Nat) (p84 : Option Addr) (b85 : Bool) (k : Value → World → Prop) (w : World) : Prop :=
  brK b85 (CALL Tryz.prog 18 #[.pointer p84, slv (none, 0, 0)] (fun v86 w => ∃ b87 : Bool, v86 = .bool b87 ∧ f6.O7 q83 p84 b87 k w) w) (f6.O7 q83 p84 false k w)
def f6.O6p (k : Value → World → Prop) : Act → World → Prop := PJ 119 [117, 115, 42] fun us ds w => un us fun v us => asBox v fun q83 => un us fun v us => asP v fun p84 => un us fun v us => asB v fun b85 => nl us (dn ds (f6.O6 q83 p84 b85 k w))
def f6.O5 (q79 : Nat) (p80 : Option Addr) (l81 : Sl) (b82 : Bool) (k : Value → World → Prop) (w : World) : Prop :=
  brK b82 (f6.O6 q79 p80 (((l81.2.1 : Nat) : Int) == 0) k w) (f6.O6 q79 p80 false k w)
def f6.O5p (k : Value → World → Prop) : Act → World → Prop := PJ 119 [117, 115, 110, 47] fun us ds w => un us fun v us => asBox v fun q79 => un us fun v us => asP v fun p80 => un us fun v us => asS v fun l81 => un us fun v us => asB v fun b82 => nl us (dn ds (f6.O5 q79 p80 l81 b82 k w))
def f6.O4 (q74 : Nat) (p75 : Option Addr) (l76 : Sl) (b77 : Bool) (b78 : Bool) (k : Value → World → Prop) (w : World) : Prop :=
  brK b78 (f6.O5 q74 p75 l76 b77 k w) (f6.O5 q74 p75 l76 false k w)
def f6.O4p (k : Value → World → Prop) : Act → World → Prop := PJ 119 [117, 115, 110, 109, 50] fun us ds w => un us fun v us => asBox v fun q74 => un us fun v us => asP v fun p75 => un us fun v us => asS v fun l76 => un us fun v us => asB v fun b77 => un us fun v us => asB v fun b78 => nl us (dn ds (f6.O4 q74 p75 l76 b77 b78 k w))
def f6.O3 (q68 : Nat) (p69 : Option Addr) (n70 : Int) (l71 : Sl) (b72 : Bool) (b73 : Bool) (k : Value → World → Prop) (w : World) : Prop :=
  brK b73 (f6.O4 q68 p69 l71 b72 (n70 == 403) k w) (f6.O4 q68 p69 l71 b72 false k w)
def f6.O3p (k : Value → World → Prop) : Act → World → Prop := PJ 119 [117, 115, 111, 110, 109, 54] fun us ds w => un us fun v us => asBox v fun q68 => un us fun v us => asP v fun p69 => un us fun v us => asI .i64 v fun n70 => un us fun v us => asS v fun l71 => un us fun v us => asB v fun b72 => un us fun v us => asB v fun b73 => nl us (dn ds (f6.O3 q68 p69 n70 l71 b72 b73 k w))
def f6.O2 (q58 : Nat) (p59 : Option Addr) (q60 : Nat) (n61 : Int) (l62 : Sl) (b63 : Bool) (b64 : Bool) (k : Value → World → Prop) (w : World) : Prop :=
  brK b64 (LD Value.bool (Addr.add ⟨q60, 0, none⟩ 0) (fun b65 w => LD (Value.int .u8) (Addr.add ⟨q60, 0, none⟩ 1) (fun n66 w => LD Value.string (Addr.add ⟨q60, 0, none⟩ 2) (fun s67 w => f6.O3 q58 p59 n61 l62 b63 ((b65 == false) && (((n66 : Int) == 0) && (decide ((s67 : ByteArray) = (⟨#[]⟩ : ByteArray)) && true))) k w) w) w) w) (f6.O3 q58 p59 n61 l62 b63 false k w)
def f6.O2p (k : Value → World → Prop) : Act → World → Prop := PJ 119 [117, 115, 112, 111, 110, 109, 59] fun us ds w => un us fun v us => asBox v fun q58 => un us fun v us => asP v fun p59 => un us fun v us => asBox v fun q60 => un us fun v us => asI .i64 v fun n61 => un us fun v us => asS v fun l62 => un us fun v us => asB v fun b63 => un us fun v us => asB v fun b64 => nl us (dn ds (f6.O2 q58 p59 q60 n61 l62 b63 b64 k w))
def f6.O1 (q48 : Nat) (p49 : Option Addr) (q50 : Nat) (n51 : Int) (l52 : Sl) (b53 : Bool) (b54 : Bool) (k : Value → World → Prop) (w : World) : Prop :=
  brK b54 (LD (Value.int .i64) (Addr.add ⟨q48, 0, none⟩ 1) (fun n55 w => CALL Tryz.prog 30 #[.pointer p49, .int .i64 n55] (fun v56 w => ∃ b57 : Bool, v56 = .bool b57 ∧ f6.O2 q48 p49 q50 n51 l52 b53 (!b57) k w) w) w) (f6.O2 q48 p49 q50 n51 l52 b53 false k w)
def f6.O1p (k : Value → World → Prop) : Act → World → Prop := PJ 119 [117, 115, 112, 111, 110, 109, 66] fun us ds w => un us fun v us => asBox v fun q48 => un us fun v us => asP v fun p49 => un us fun v us => asBox v fun q50 => un us fun v us => asI .i64 v fun n51 => un us fun v us => asS v fun l52 => un us fun v us => asB v fun b53 => un us fun v us => asB v fun b54 => nl us (dn ds (f6.O1 q48 p49 q50 n51 l52 b53 b54 k w))
theorem f6.O12_den (D : Nat → Value) (q115 : Nat) (p116 : Option Addr) (b117 : Bool) (k : Value → World → Prop) (w : World) : (spK (FR D 119 [117, 115, 8] [.pointer (some ⟨q115, 0, none⟩), .pointer p116, .bool b117]) fun l => denOps Tryz.prog (opsAt (codeAt f6.body [1, 1, 1, 1, 1, 1, 1, 1, 1, 1, 0])) ((f6.Q1 k) .normal) (((opsAt (codeAt f6.body [1, 1, 1, 1, 1, 1, 1, 1, 1, 1, 0])).toList.drop 61).take 9) { tmps := l.toArray, defers := [] } w) = f6.O12 q115 p116 b117 k w := by kernel_rfl
theorem f6.O12_ok {k : Value → World → Prop} : OKR Tryz.prog none (opsAt (codeAt f6.body [1, 1, 1, 1, 1, 1, 1, 1, 1, 1, 0])) (f6.O12p k) 61 (f6.Q1 k) := by
  intro a w h
  obtain ⟨D, us, ds, rfl, h0⟩ := PJ_out h
  obtain ⟨v, us, rfl, h1⟩ := un_out h0
  obtain ⟨q115, rfl, h2⟩ := asBox_out h1
  obtain ⟨v, us, rfl, h3⟩ := un_out h2
  obtain ⟨p116, rfl, h4⟩ := asP_out h3
  obtain ⟨v, us, rfl, h5⟩ := un_out h4
  obtain ⟨b117, rfl, h6⟩ := asB_out h5
  obtain ⟨rfl, h7⟩ := nl_out h6
  obtain ⟨rfl, h8⟩ := dn_out h7
  rw [← f6.O12_den D q115 p116 b117 k w] at h8
  exact okr_of (m := 9) (okr_end (by kernel_rfl)) h8
theorem f6.O11_den (D : Nat → Value) (q108 : Nat) (p109 : Option Addr) (b110 : Bool) (k : Value → World → Prop) (w : World) : (spK (FR D 119 [117, 115, 17] [.pointer (some ⟨q108, 0, none⟩), .pointer p109, .bool b110]) fun l => denOps Tryz.prog (opsAt (codeAt f6.body [1, 1, 1, 1, 1, 1, 1, 1, 1, 1, 0])) (f6.O12p k) (((opsAt (codeAt f6.body [1, 1, 1, 1, 1, 1, 1, 1, 1, 1, 0])).toList.drop 52).take 9) { tmps := l.toArray, defers := [] } w) = f6.O11 q108 p109 b110 k w := by kernel_rfl
theorem f6.O11_ok {k : Value → World → Prop} : OKR Tryz.prog none (opsAt (codeAt f6.body [1, 1, 1, 1, 1, 1, 1, 1, 1, 1, 0])) (f6.O11p k) 52 (f6.Q1 k) := by
  intro a w h
  obtain ⟨D, us, ds, rfl, h0⟩ := PJ_out h
  obtain ⟨v, us, rfl, h1⟩ := un_out h0
  obtain ⟨q108, rfl, h2⟩ := asBox_out h1
  obtain ⟨v, us, rfl, h3⟩ := un_out h2
  obtain ⟨p109, rfl, h4⟩ := asP_out h3
  obtain ⟨v, us, rfl, h5⟩ := un_out h4
  obtain ⟨b110, rfl, h6⟩ := asB_out h5
  obtain ⟨rfl, h7⟩ := nl_out h6
  obtain ⟨rfl, h8⟩ := dn_out h7
  rw [← f6.O11_den D q108 p109 b110 k w] at h8
  exact okr_of (m := 9) f6.O12_ok h8
theorem f6.O10_den (D : Nat → Value) (q103 : Nat) (p104 : Option Addr) (b105 : Bool) (k : Value → World → Prop) (w : World) : (spK (FR D 119 [117, 115, 23] [.pointer (some ⟨q103, 0, none⟩), .pointer p104, .bool b105]) fun l => denOps Tryz.prog (opsAt (codeAt f6.body [1, 1, 1, 1, 1, 1, 1, 1, 1, 1, 0])) (f6.O11p k) (((opsAt (codeAt f6.body [1, 1, 1, 1, 1, 1, 1, 1, 1, 1, 0])).toList.drop 46).take 6) { tmps := l.toArray, defers := [] } w) = f6.O10 q103 p104 b105 k w := by kernel_rfl
theorem f6.O10_ok {k : Value → World → Prop} : OKR Tryz.prog none (opsAt (codeAt f6.body [1, 1, 1, 1, 1, 1, 1, 1, 1, 1, 0])) (f6.O10p k) 46 (f6.Q1 k) := by
  intro a w h
  obtain ⟨D, us, ds, rfl, h0⟩ := PJ_out h
  obtain ⟨v, us, rfl, h1⟩ := un_out h0
  obtain ⟨q103, rfl, h2⟩ := asBox_out h1
  obtain ⟨v, us, rfl, h3⟩ := un_out h2
  obtain ⟨p104, rfl, h4⟩ := asP_out h3
  obtain ⟨v, us, rfl, h5⟩ := un_out h4
  obtain ⟨b105, rfl, h6⟩ := asB_out h5
  obtain ⟨rfl, h7⟩ := nl_out h6
  obtain ⟨rfl, h8⟩ := dn_out h7
  rw [← f6.O10_den D q103 p104 b105 k w] at h8
  exact okr_of (m := 6) f6.O11_ok h8
theorem f6.O9_den (D : Nat → Value) (q98 : Nat) (p99 : Option Addr) (b100 : Bool) (k : Value → World → Prop) (w : World) : (spK (FR D 119 [117, 115, 28] [.pointer (some ⟨q98, 0, none⟩), .pointer p99, .bool b100]) fun l => denOps Tryz.prog (opsAt (codeAt f6.body [1, 1, 1, 1, 1, 1, 1, 1, 1, 1, 0])) (f6.O10p k) (((opsAt (codeAt f6.body [1, 1, 1, 1, 1, 1, 1, 1, 1, 1, 0])).toList.drop 41).take 5) { tmps := l.toArray, defers := [] } w) = f6.O9 q98 p99 b100 k w := by kernel_rfl
theorem f6.O9_ok {k : Value → World → Prop} : OKR Tryz.prog none (opsAt (codeAt f6.body [1, 1, 1, 1, 1, 1, 1, 1, 1, 1, 0])) (f6.O9p k) 41 (f6.Q1 k) := by
  intro a w h
  obtain ⟨D, us, ds, rfl, h0⟩ := PJ_out h
  obtain ⟨v, us, rfl, h1⟩ := un_out h0
  obtain ⟨q98, rfl, h2⟩ := asBox_out h1
  obtain ⟨v, us, rfl, h3⟩ := un_out h2
  obtain ⟨p99, rfl, h4⟩ := asP_out h3
  obtain ⟨v, us, rfl, h5⟩ := un_out h4
  obtain ⟨b100, rfl, h6⟩ := asB_out h5
  obtain ⟨rfl, h7⟩ := nl_out h6
  obtain ⟨rfl, h8⟩ := dn_out h7
  rw [← f6.O9_den D q98 p99 b100 k w] at h8
  exact okr_of (m := 5) f6.O10_ok h8
theorem f6.O8_den (D : Nat → Value) (q93 : Nat) (p94 : Option Addr) (b95 : Bool) (k : Value → World → Prop) (w : World) : (spK (FR D 119 [117, 115, 33] [.pointer (some ⟨q93, 0, none⟩), .pointer p94, .bool b95]) fun l => denOps Tryz.prog (opsAt (codeAt f6.body [1, 1, 1, 1, 1, 1, 1, 1, 1, 1, 0])) (f6.O9p k) (((opsAt (codeAt f6.body [1, 1, 1, 1, 1, 1, 1, 1, 1, 1, 0])).toList.drop 36).take 5) { tmps := l.toArray, defers := [] } w) = f6.O8 q93 p94 b95 k w := by kernel_rfl
theorem f6.O8_ok {k : Value → World → Prop} : OKR Tryz.prog none (opsAt (codeAt f6.body [1, 1, 1, 1, 1, 1, 1, 1, 1, 1, 0])) (f6.O8p k) 36 (f6.Q1 k) := by
  intro a w h
  obtain ⟨D, us, ds, rfl, h0⟩ := PJ_out h
  obtain ⟨v, us, rfl, h1⟩ := un_out h0
  obtain ⟨q93, rfl, h2⟩ := asBox_out h1
  obtain ⟨v, us, rfl, h3⟩ := un_out h2
  obtain ⟨p94, rfl, h4⟩ := asP_out h3
  obtain ⟨v, us, rfl, h5⟩ := un_out h4
  obtain ⟨b95, rfl, h6⟩ := asB_out h5
  obtain ⟨rfl, h7⟩ := nl_out h6
  obtain ⟨rfl, h8⟩ := dn_out h7
  rw [← f6.O8_den D q93 p94 b95 k w] at h8
  exact okr_of (m := 5) f6.O9_ok h8
theorem f6.O7_den (D : Nat → Value) (q88 : Nat) (p89 : Option Addr) (b90 : Bool) (k : Value → World → Prop) (w : World) : (spK (FR D 119 [117, 115, 38] [.pointer (some ⟨q88, 0, none⟩), .pointer p89, .bool b90]) fun l => denOps Tryz.prog (opsAt (codeAt f6.body [1, 1, 1, 1, 1, 1, 1, 1, 1, 1, 0])) (f6.O8p k) (((opsAt (codeAt f6.body [1, 1, 1, 1, 1, 1, 1, 1, 1, 1, 0])).toList.drop 31).take 5) { tmps := l.toArray, defers := [] } w) = f6.O7 q88 p89 b90 k w := by kernel_rfl
theorem f6.O7_ok {k : Value → World → Prop} : OKR Tryz.prog none (opsAt (codeAt f6.body [1, 1, 1, 1, 1, 1, 1, 1, 1, 1, 0])) (f6.O7p k) 31 (f6.Q1 k) := by
  intro a w h
  obtain ⟨D, us, ds, rfl, h0⟩ := PJ_out h
  obtain ⟨v, us, rfl, h1⟩ := un_out h0
  obtain ⟨q88, rfl, h2⟩ := asBox_out h1
  obtain ⟨v, us, rfl, h3⟩ := un_out h2
  obtain ⟨p89, rfl, h4⟩ := asP_out h3
  obtain ⟨v, us, rfl, h5⟩ := un_out h4
  obtain ⟨b90, rfl, h6⟩ := asB_out h5
  obtain ⟨rfl, h7⟩ := nl_out h6
  obtain ⟨rfl, h8⟩ := dn_out h7
  rw [← f6.O7_den D q88 p89 b90 k w] at h8
  exact okr_of (m := 5) f6.O8_ok h8
theorem f6.O6_den (D : Nat → Value) (q83 : Nat) (p84 : Option Addr) (b85 : Bool) (k : Value → World → Prop) (w : World) : (spK (FR D 119 [117, 115, 42] [.pointer (some ⟨q83, 0, none⟩), .pointer p84, .bool b85]) fun l => denOps Tryz.prog (opsAt (codeAt f6.body [1, 1, 1, 1, 1, 1, 1, 1, 1, 1, 0])) (f6.O7p k) (((opsAt (codeAt f6.body [1, 1, 1, 1, 1, 1, 1, 1, 1, 1, 0])).toList.drop 27).take 4) { tmps := l.toArray, defers := [] } w) = f6.O6 q83 p84 b85 k w := by kernel_rfl
theorem f6.O6_ok {k : Value → World → Prop} : OKR Tryz.prog none (opsAt (codeAt f6.body [1, 1, 1, 1, 1, 1, 1, 1, 1, 1, 0])) (f6.O6p k) 27 (f6.Q1 k) := by
  intro a w h
  obtain ⟨D, us, ds, rfl, h0⟩ := PJ_out h
  obtain ⟨v, us, rfl, h1⟩ := un_out h0
  obtain ⟨q83, rfl, h2⟩ := asBox_out h1
  obtain ⟨v, us, rfl, h3⟩ := un_out h2
  obtain ⟨p84, rfl, h4⟩ := asP_out h3
  obtain ⟨v, us, rfl, h5⟩ := un_out h4
  obtain ⟨b85, rfl, h6⟩ := asB_out h5
  obtain ⟨rfl, h7⟩ := nl_out h6
  obtain ⟨rfl, h8⟩ := dn_out h7
  rw [← f6.O6_den D q83 p84 b85 k w] at h8
  exact okr_of (m := 4) f6.O7_ok h8
theorem f6.O5_den (D : Nat → Value) (q79 : Nat) (p80 : Option Addr) (l81 : Sl) (b82 : Bool) (k : Value → World → Prop) (w : World) : (spK (FR D 119 [117, 115, 110, 47] [.pointer (some ⟨q79, 0, none⟩), .pointer p80, slv l81, .bool b82]) fun l => denOps Tryz.prog (opsAt (codeAt f6.body [1, 1, 1, 1, 1, 1, 1, 1, 1, 1, 0])) (f6.O6p k) (((opsAt (codeAt f6.body [1, 1, 1, 1, 1, 1, 1, 1, 1, 1, 0])).toList.drop 22).take 5) { tmps := l.toArray, defers := [] } w) = f6.O5 q79 p80 l81 b82 k w := by kernel_rfl
theorem f6.O5_ok {k : Value → World → Prop} : OKR Tryz.prog none (opsAt (codeAt f6.body [1, 1, 1, 1, 1, 1, 1, 1, 1, 1, 0])) (f6.O5p k) 22 (f6.Q1 k) := by
  intro a w h
  obtain ⟨D, us, ds, rfl, h0⟩ := PJ_out h
  obtain ⟨v, us, rfl, h1⟩ := un_out h0
  obtain ⟨q79, rfl, h2⟩ := asBox_out h1
  obtain ⟨v, us, rfl, h3⟩ := un_out h2
  obtain ⟨p80, rfl, h4⟩ := asP_out h3
  obtain ⟨v, us, rfl, h5⟩ := un_out h4
  obtain ⟨l81, rfl, h6⟩ := asS_out h5
  obtain ⟨v, us, rfl, h7⟩ := un_out h6
  obtain ⟨b82, rfl, h8⟩ := asB_out h7
  obtain ⟨rfl, h9⟩ := nl_out h8
  obtain ⟨rfl, h10⟩ := dn_out h9
  rw [← f6.O5_den D q79 p80 l81 b82 k w] at h10
  exact okr_of (m := 5) f6.O6_ok h10
theorem f6.O4_den (D : Nat → Value) (q74 : Nat) (p75 : Option Addr) (l76 : Sl) (b77 : Bool) (b78 : Bool) (k : Value → World → Prop) (w : World) : (spK (FR D 119 [117, 115, 110, 109, 50] [.pointer (some ⟨q74, 0, none⟩), .pointer p75, slv l76, .bool b77, .bool b78]) fun l => denOps Tryz.prog (opsAt (codeAt f6.body [1, 1, 1, 1, 1, 1, 1, 1, 1, 1, 0])) (f6.O5p k) (((opsAt (codeAt f6.body [1, 1, 1, 1, 1, 1, 1, 1, 1, 1, 0])).toList.drop 19).take 3) { tmps := l.toArray, defers := [] } w) = f6.O4 q74 p75 l76 b77 b78 k w := by kernel_rfl
theorem f6.O4_ok {k : Value → World → Prop} : OKR Tryz.prog none (opsAt (codeAt f6.body [1, 1, 1, 1, 1, 1, 1, 1, 1, 1, 0])) (f6.O4p k) 19 (f6.Q1 k) := by
  intro a w h
  obtain ⟨D, us, ds, rfl, h0⟩ := PJ_out h
  obtain ⟨v, us, rfl, h1⟩ := un_out h0
  obtain ⟨q74, rfl, h2⟩ := asBox_out h1
  obtain ⟨v, us, rfl, h3⟩ := un_out h2
  obtain ⟨p75, rfl, h4⟩ := asP_out h3
  obtain ⟨v, us, rfl, h5⟩ := un_out h4
  obtain ⟨l76, rfl, h6⟩ := asS_out h5
  obtain ⟨v, us, rfl, h7⟩ := un_out h6
  obtain ⟨b77, rfl, h8⟩ := asB_out h7
  obtain ⟨v, us, rfl, h9⟩ := un_out h8
  obtain ⟨b78, rfl, h10⟩ := asB_out h9
  obtain ⟨rfl, h11⟩ := nl_out h10
  obtain ⟨rfl, h12⟩ := dn_out h11
  rw [← f6.O4_den D q74 p75 l76 b77 b78 k w] at h12
  exact okr_of (m := 3) f6.O5_ok h12
theorem f6.O3_den (D : Nat → Value) (q68 : Nat) (p69 : Option Addr) (n70 : Int) (l71 : Sl) (b72 : Bool) (b73 : Bool) (k : Value → World → Prop) (w : World) : (spK (FR D 119 [117, 115, 111, 110, 109, 54] [.pointer (some ⟨q68, 0, none⟩), .pointer p69, .int .i64 n70, slv l71, .bool b72, .bool b73]) fun l => denOps Tryz.prog (opsAt (codeAt f6.body [1, 1, 1, 1, 1, 1, 1, 1, 1, 1, 0])) (f6.O4p k) (((opsAt (codeAt f6.body [1, 1, 1, 1, 1, 1, 1, 1, 1, 1, 0])).toList.drop 15).take 4) { tmps := l.toArray, defers := [] } w) = f6.O3 q68 p69 n70 l71 b72 b73 k w := by kernel_rfl
theorem f6.O3_ok {k : Value → World → Prop} : OKR Tryz.prog none (opsAt (codeAt f6.body [1, 1, 1, 1, 1, 1, 1, 1, 1, 1, 0])) (f6.O3p k) 15 (f6.Q1 k) := by
  intro a w h
  obtain ⟨D, us, ds, rfl, h0⟩ := PJ_out h
  obtain ⟨v, us, rfl, h1⟩ := un_out h0
  obtain ⟨q68, rfl, h2⟩ := asBox_out h1
  obtain ⟨v, us, rfl, h3⟩ := un_out h2
  obtain ⟨p69, rfl, h4⟩ := asP_out h3
  obtain ⟨v, us, rfl, h5⟩ := un_out h4
  obtain ⟨n70, rfl, h6⟩ := asI_out h5
  obtain ⟨v, us, rfl, h7⟩ := un_out h6
  obtain ⟨l71, rfl, h8⟩ := asS_out h7
  obtain ⟨v, us, rfl, h9⟩ := un_out h8
  obtain ⟨b72, rfl, h10⟩ := asB_out h9
  obtain ⟨v, us, rfl, h11⟩ := un_out h10
  obtain ⟨b73, rfl, h12⟩ := asB_out h11
  obtain ⟨rfl, h13⟩ := nl_out h12
  obtain ⟨rfl, h14⟩ := dn_out h13
  rw [← f6.O3_den D q68 p69 n70 l71 b72 b73 k w] at h14
  exact okr_of (m := 4) f6.O4_ok h14
theorem f6.O2_den (D : Nat → Value) (q58 : Nat) (p59 : Option Addr) (q60 : Nat) (n61 : Int) (l62 : Sl) (b63 : Bool) (b64 : Bool) (k : Value → World → Prop) (w : World) : (spK (FR D 119 [117, 115, 112, 111, 110, 109, 59] [.pointer (some ⟨q58, 0, none⟩), .pointer p59, .pointer (some ⟨q60, 0, none⟩), .int .i64 n61, slv l62, .bool b63, .bool b64]) fun l => denOps Tryz.prog (opsAt (codeAt f6.body [1, 1, 1, 1, 1, 1, 1, 1, 1, 1, 0])) (f6.O3p k) (((opsAt (codeAt f6.body [1, 1, 1, 1, 1, 1, 1, 1, 1, 1, 0])).toList.drop 10).take 5) { tmps := l.toArray, defers := [] } w) = f6.O2 q58 p59 q60 n61 l62 b63 b64 k w := by kernel_rfl
theorem f6.O2_ok {k : Value → World → Prop} : OKR Tryz.prog none (opsAt (codeAt f6.body [1, 1, 1, 1, 1, 1, 1, 1, 1, 1, 0])) (f6.O2p k) 10 (f6.Q1 k) := by
  intro a w h
  obtain ⟨D, us, ds, rfl, h0⟩ := PJ_out h
  obtain ⟨v, us, rfl, h1⟩ := un_out h0
  obtain ⟨q58, rfl, h2⟩ := asBox_out h1
  obtain ⟨v, us, rfl, h3⟩ := un_out h2
  obtain ⟨p59, rfl, h4⟩ := asP_out h3
  obtain ⟨v, us, rfl, h5⟩ := un_out h4
  obtain ⟨q60, rfl, h6⟩ := asBox_out h5
  obtain ⟨v, us, rfl, h7⟩ := un_out h6
  obtain ⟨n61, rfl, h8⟩ := asI_out h7
  obtain ⟨v, us, rfl, h9⟩ := un_out h8
  obtain ⟨l62, rfl, h10⟩ := asS_out h9
  obtain ⟨v, us, rfl, h11⟩ := un_out h10
  obtain ⟨b63, rfl, h12⟩ := asB_out h11
  obtain ⟨v, us, rfl, h13⟩ := un_out h12
  obtain ⟨b64, rfl, h14⟩ := asB_out h13
  obtain ⟨rfl, h15⟩ := nl_out h14
  obtain ⟨rfl, h16⟩ := dn_out h15
  rw [← f6.O2_den D q58 p59 q60 n61 l62 b63 b64 k w] at h16
  exact okr_of (m := 5) f6.O3_ok h16
theorem f6.O1_den (D : Nat → Value) (q48 : Nat) (p49 : Option Addr) (q50 : Nat) (n51 : Int) (l52 : Sl) (b53 : Bool) (b54 : Bool) (k : Value → World → Prop) (w : World) : (spK (FR D 119 [117, 115, 112, 111, 110, 109, 66] [.pointer (some ⟨q48, 0, none⟩), .pointer p49, .pointer (some ⟨q50, 0, none⟩), .int .i64 n51, slv l52, .bool b53, .bool b54]) fun l => denOps Tryz.prog (opsAt (codeAt f6.body [1, 1, 1, 1, 1, 1, 1, 1, 1, 1, 0])) (f6.O2p k) (((opsAt (codeAt f6.body [1, 1, 1, 1, 1, 1, 1, 1, 1, 1, 0])).toList.drop 3).take 7) { tmps := l.toArray, defers := [] } w) = f6.O1 q48 p49 q50 n51 l52 b53 b54 k w := by kernel_rfl
theorem f6.O1_ok {k : Value → World → Prop} : OKR Tryz.prog none (opsAt (codeAt f6.body [1, 1, 1, 1, 1, 1, 1, 1, 1, 1, 0])) (f6.O1p k) 3 (f6.Q1 k) := by
  intro a w h
  obtain ⟨D, us, ds, rfl, h0⟩ := PJ_out h
  obtain ⟨v, us, rfl, h1⟩ := un_out h0
  obtain ⟨q48, rfl, h2⟩ := asBox_out h1
  obtain ⟨v, us, rfl, h3⟩ := un_out h2
  obtain ⟨p49, rfl, h4⟩ := asP_out h3
  obtain ⟨v, us, rfl, h5⟩ := un_out h4
  obtain ⟨q50, rfl, h6⟩ := asBox_out h5
  obtain ⟨v, us, rfl, h7⟩ := un_out h6
  obtain ⟨n51, rfl, h8⟩ := asI_out h7
  obtain ⟨v, us, rfl, h9⟩ := un_out h8
  obtain ⟨l52, rfl, h10⟩ := asS_out h9
  obtain ⟨v, us, rfl, h11⟩ := un_out h10
  obtain ⟨b53, rfl, h12⟩ := asB_out h11
  obtain ⟨v, us, rfl, h13⟩ := un_out h12
  obtain ⟨b54, rfl, h14⟩ := asB_out h13
  obtain ⟨rfl, h15⟩ := nl_out h14
  obtain ⟨rfl, h16⟩ := dn_out h15
  rw [← f6.O1_den D q48 p49 q50 n51 l52 b53 b54 k w] at h16
  exact okr_of (m := 7) f6.O2_ok h16
def f6.b (n1 : Int) (n2 : Int) (b3 : Bool) (s4 : ByteArray) (b5 : Bool) (n6 : Int) (s7 : ByteArray) (k : Value → World → Prop) (w : World) : Prop :=
  AL (.cells #[.int .i64 n1, .int .i64 n2, .bool b3, .string s4, .bool b5, .int .u8 n6, .string s7] 33) (fun q8 w => CALL Tryz.prog 7 #[] (fun v9 w => ∃ b10 : Bool, v9 = .bool b10 ∧ brK (!b10) (k (.bool false) w) (LD (Value.int .i64) (Addr.add ⟨q8, 0, none⟩ 0) (fun n11 w => LD (Value.int .i64) (Addr.add ⟨q8, 0, none⟩ 1) (fun n12 w => LD Value.bool (Addr.add ⟨q8, 0, none⟩ 2) (fun b13 w => LD Value.string (Addr.add ⟨q8, 0, none⟩ 3) (fun s14 w => LD Value.bool (Addr.add ⟨q8, 0, none⟩ 4) (fun b15 w => LD (Value.int .u8) (Addr.add ⟨q8, 0, none⟩ 5) (fun n16 w => LD Value.string (Addr.add ⟨q8, 0, none⟩ 6) (fun s17 w => AL (.cells #[.int .i64 n11, .int .i64 n12, .bool b13, .string s14, .bool b15, .int .u8 n16, .string s17] 33) (fun q18 w => CALL Tryz.prog 8 #[slv ((some ⟨q18, 0, none⟩), 1, 1)] (fun v19 w => ∃ b20 : Bool, v19 = .bool b20 ∧ brK b20 (k (.bool true) w) (LD (Value.int .i64) (Addr.add ⟨q8, 0, none⟩ 1) (fun n21 w => LD Value.bool (Addr.add ⟨q8, 0, none⟩ 2) (fun b22 w => CALL Tryz.prog 27 #[.pointer none, .int .i64 n21, .bool b22] (fun v23 w => v23 = .tuple #[] ∧ LD Value.string (Addr.add ⟨q8, 0, none⟩ 3) (fun s24 w => CALL Tryz.prog 28 #[.pointer none, .string s24] (fun v25 w => v25 = .tuple #[] ∧ LD (Value.int .i64) (Addr.add ⟨q8, 0, none⟩ 1) (fun n26 w => CALL Tryz.prog 29 #[.pointer none, .int .i64 n26] (fun v27 w => v27 = .tuple #[] ∧ LD (Value.int .i64) (Addr.add ⟨q8, 0, none⟩ 1) (fun n28 w => CALL Tryz.prog 14 #[.pointer none, .int .i64 n28] (fun v29 w => ∃ n30 : Int, ∃ b31 : Bool, ∃ b32 : Bool, ∃ b33 : Bool, v29 = .tuple #[.agg #[.int .i64 n30, .bool b31, .bool b32], .bool b33] ∧ AL (.cells #[.int .i64 0, .bool false, .bool false] 39) (fun q34 w => ST (Addr.add ⟨q34, 0, none⟩ 0) (.int .i64 n30) (fun w => ST (Addr.add ⟨q34, 0, none⟩ 1) (.bool b31) (fun w => ST (Addr.add ⟨q34, 0, none⟩ 2) (.bool b32) (fun w => LD Value.bool (Addr.add (Addr.add ⟨q8, 0, none⟩ 4) 0) (fun b35 w => LD (Value.int .u8) (Addr.add (Addr.add ⟨q8, 0, none⟩ 4) 1) (fun n36 w => LD Value.string (Addr.add (Addr.add ⟨q8, 0, none⟩ 4) 2) (fun s37 w => LD (Value.int .i64) (Addr.add ⟨q8, 0, none⟩ 1) (fun n38 w => CALL Tryz.prog 15 #[.pointer none, .agg #[.bool b35, .int .u8 n36, .string s37], .int .i64 n38] (fun v39 w => ∃ b40 : Bool, ∃ n41 : Int, ∃ s42 : ByteArray, ∃ n43 : Int, v39 = .tuple #[.agg #[.bool b40, .int .u8 n41, .string s42], .int .i64 n43] ∧ AL (.cells #[.bool false, .int .u8 0, .string (⟨#[]⟩ : ByteArray)] 24) (fun q44 w => ST (Addr.add ⟨q44, 0, none⟩ 0) (.bool b40) (fun w => ST (Addr.add ⟨q44, 0, none⟩ 1) (.int .u8 n41) (fun w => ST (Addr.add ⟨q44, 0, none⟩ 2) (.string s42) (fun w => CALL Tryz.prog 13 #[.pointer none] (fun v45 w => ∃ l46 : Sl, ∃ b47 : Bool, v45 = .tuple #[slv l46, .bool b47] ∧ f6.O1 q8 none q44 n43 l46 b47 (!b33) k w) w) w) w) w) w) w) w) w) w) w) w) w) w) w) w) w) w) w) w) w) w) w) w)) w) w) w) w) w) w) w) w) w)) w) w
theorem f6.den (n1 : Int) (n2 : Int) (b3 : Bool) (s4 : ByteArray) (b5 : Bool) (n6 : Int) (s7 : ByteArray) (k : Value → World → Prop) (w : World) : pc Tryz.prog none (.seq none .none (.seq none .none (.seq none .none (.seq none .none (.seq none .none (.seq none .none (.seq none .none (.seq none .none (.seq none .none (.seq none .none (.seq none (.reg 3 (f6.O1p k)) .none))))))))))) f6.body (retQ Tryz.prog [.tmp 2] k) (fun _ => undef) 119 [118] [.agg #[.int .i64 n1, .int .i64 n2, .bool b3, .string s4, .bool b5, .int .u8 n6, .string s7]] [] w = f6.b n1 n2 b3 s4 b5 n6 s7 k w := by kernel_rfl
theorem f6.okc {k : Value → World → Prop} : okC Tryz.prog none (.seq none .none (.seq none .none (.seq none .none (.seq none .none (.seq none .none (.seq none .none (.seq none .none (.seq none .none (.seq none .none (.seq none .none (.seq none (.reg 3 (f6.O1p k)) .none))))))))))) f6.body (retQ Tryz.prog [.tmp 2] k) :=
  Eq.mpr (by kernel_rfl : okC Tryz.prog none (.seq none .none (.seq none .none (.seq none .none (.seq none .none (.seq none .none (.seq none .none (.seq none .none (.seq none .none (.seq none .none (.seq none .none (.seq none (.reg 3 (f6.O1p k)) .none))))))))))) f6.body (retQ Tryz.prog [.tmp 2] k) = (((True) ∧ (((True) ∧ (((True) ∧ (((True) ∧ (((True) ∧ (((True) ∧ (((True) ∧ (((True) ∧ (((True) ∧ (((True) ∧ (((OKR Tryz.prog none (opsAt (codeAt f6.body [1, 1, 1, 1, 1, 1, 1, 1, 1, 1, 0])) (f6.O1p k) 3 (f6.Q1 k)) ∧ (True)))))))))))))))))))))))) (⟨trivial, ⟨trivial, ⟨trivial, ⟨trivial, ⟨trivial, ⟨trivial, ⟨trivial, ⟨trivial, ⟨trivial, ⟨trivial, ⟨f6.O1_ok, trivial⟩⟩⟩⟩⟩⟩⟩⟩⟩⟩⟩)
theorem f6.call {n1 : Int} {n2 : Int} {b3 : Bool} {s4 : ByteArray} {b5 : Bool} {n6 : Int} {s7 : ByteArray} {k : Value → World → Prop} {w : World} (h : f6.b n1 n2 b3 s4 b5 n6 s7 k w) : CALL Tryz.prog 6 #[.agg #[.int .i64 n1, .int .i64 n2, .bool b3, .string s4, .bool b5, .int .u8 n6, .string s7]] k w :=
  calls_of_pc Tryz.mixed Tryz.func6 (by kernel_rfl : Tryz.f6.body = some f6.body) (Tryz.call6 _ _) (by kernel_rfl : #[.agg #[.int .i64 n1, .int .i64 n2, .bool b3, .string s4, .bool b5, .int .u8 n6, .string s7]] ++ Array.replicate (Tryz.f6.ntmps - (#[.agg #[.int .i64 n1, .int .i64 n2, .bool b3, .string s4, .bool b5, .int .u8 n6, .string s7]] : Array Value).size) undef = (FR (fun _ => undef) 119 [118] [.agg #[.int .i64 n1, .int .i64 n2, .bool b3, .string s4, .bool b5, .int .u8 n6, .string s7]]).toArray) (by kernel_rfl : Tryz.f6.results.toList = [.tmp 2]) f6.okc ((f6.den n1 n2 b3 s4 b5 n6 s7 k w).symm ▸ h)
end Go.Proofs.YtlefdgplobifiaaGreatDoor
