/- 'den': the weakest precondition of the model's code in continuation form, over small typed primitives; proved to imply the kit's 'wpIn' at the wide fence. Nothing of a program stands here. -/
import Derived.Test.YtlefdgplobifiaaGreatDoorBase
namespace Go.Proofs.YtlefdgplobifiaaGreatDoor
open Go

abbrev Sl := Option Addr × Nat × Nat
abbrev slv (s : Sl) : Value := .slice s.1 s.2.1 s.2.2

def brK (c : Bool) (X Y : Prop) : Prop := match c with | true => X | false => Y
def RQ (p X : Prop) : Prop := p ∧ X
def LD {α : Type} (mk : α → Value) (a : Addr) (k : α → World → Prop) (w : World) : Prop := ∃ x, w.cell? a = some (mk x) ∧ k x w
def ST (a : Addr) (v : Value) (k : World → Prop) (w : World) : Prop := v.oneCell' = true ∧ (∃ u, w.cell? a = some u) ∧ w.frozen? a = false ∧ k (w.setCell a v)
def AL (o : Obj) (k : Nat → World → Prop) (w : World) : Prop := k w.heap.size (w.alloc o)
def NN (p : Option Addr) (k : Addr → Prop) : Prop := match p with | some a => k a | none => False
def IX (s : Sl) (i : Int) (sz : Nat) (k : Addr → Prop) : Prop := ∃ a, s.1 = some a ∧ 0 ≤ i ∧ i < s.2.1 ∧ k (a.add (i.toNat * sz))
def SIX (s : ByteArray) (i : Int) (k : Int → Prop) : Prop := ∃ b : UInt8, 0 ≤ i ∧ s[i.toNat]? = some b ∧ k (b.toNat : Int)
def slSub3 (s : Sl) (l h m sz : Nat) : Sl := (if m = l then s.1 else s.1.map (·.add (l * sz)), h - l, m - l)
def slSub (s : Sl) (l h sz : Nat) : Sl := (if s.2.2 = l then s.1 else s.1.map (·.add (l * sz)), h - l, s.2.2 - l)

/-- A call of function g: it returns a value, and k holds of it (the second form: a function without a body, which the model answers itself). -/
inductive CALL (P : Program) (g : FuncId) (args : Array Value) (k : Value → World → Prop) (w : World) : Prop
  | mk (h : ((callFunc g args).run P w = .ok (.enter g args) w ∧ Calls P g args w (fun e w' => ∃ v, e = .returned v ∧ k v w')) ∨
      (∃ v w', (callFunc g args).run P w = .ok (.value v) w' ∧ k v w'))
def YLD (P : Program) (l : Nat) (args : Array Value) (k : Value → World → Prop) (w : World) : Prop :=
  ∃ rec, w.heap[l]? = some (.loop rec) ∧ args.size = rec.params.size ∧
    RoundIn Fence.wide 0 P l rec.fn ((rec.params.zip args).foldl (fun tmps (t, a) => tmps.setIfInBounds t a) rec.tmps) rec.assign rec.body w (fun e w' => ∃ v, e = .returned v ∧ k v w')
/-- A call of a function value. -/
inductive DYN (P : Program) (v : Value) (args : Array Value) (k : Value → World → Prop) (w : World) : Prop
  | mk (h : match v with
      | .func (.func g) first cap => CALL P g (first.toList ++ args.toList ++ cap.toList).toArray k w
      | .func (.yield l) first _ => YLD P l (first.toList ++ args.toList).toArray k w
      | _ => False)

/-! ### What a value of a static type looks like -/
def cellTys (P : Program) : Nat → TypeId → List TypeId
  | 0, t => [t]
  | n + 1, t => match P.underlying t with
    | some (.struct fs) => fs.toList.flatMap fun f => cellTys P n f.type
    | some (.array m e) => (List.replicate m (cellTys P n e)).flatten
    | _ => [t]
def arrT (P : Program) (t : TypeId) : Bool := match P.underlying t with | some (.array ..) => true | _ => false
def aggT (P : Program) (t : TypeId) : Bool := match P.underlying t with | some (.struct _) | some (.array ..) => true | _ => false

def cellsAt (w : World) (a : Addr) : Nat → Nat → Option (List Value)
  | _, 0 => some []
  | i, n + 1 => match w.cell? (a.add i), cellsAt w a (i + 1) n with
    | some v, some vs => some (v :: vs)
    | _, _ => none
def cellsOfS (w : World) (s : Sl) (m : Nat) : Option (List Value) :=
  match s.1 with
  | none => some []
  | some a => cellsAt w a 0 m
/-- The cells of an array, all at once. -/
def LDA (n : Nat) (a : Addr) (k : Array Value → World → Prop) (w : World) : Prop := ∃ cs : Array Value, cs.size = n ∧ cellsAt w a 0 n = some cs.toList ∧ k cs w
/-- What the model's own run of a part gives, where no primitive of ours speaks of it. -/
def RV (P : Program) (s : Sem Value) (k : Value → World → Prop) (w : World) : Prop := ∃ v w', s.run P w = .ok v w' ∧ k v w'
def ldCell (P : Program) (t : TypeId) (a : Addr) (k : Value → World → Prop) (w : World) : Prop :=
  match P.underlying t with
  | some (.int κ) => LD (Value.int κ) a (fun n w => k (.int κ n) w) w
  | some .bool => LD Value.bool a (fun n w => k (.bool n) w) w
  | some .string => LD Value.string a (fun n w => k (.string n) w) w
  | some (.pointer _) => LD Value.pointer a (fun n w => k (.pointer n) w) w
  | some (.slice _) => LD slv a (fun n w => k (slv n) w) w
  | some (.map _ _) => LD Value.map a (fun n w => k (.map n) w) w
  | some (.func _ _ _) => LD (fun v => v) a (fun n w => k n w) w
  | some (.interface _) => LD (fun v => v) a (fun n w => k n w) w
  | _ => False
def exCell (P : Program) (t : TypeId) (F : Value → Prop) : Prop :=
  match P.underlying t with
  | some (.int κ) => ∃ n : Int, F (.int κ n)
  | some .bool => ∃ n : Bool, F (.bool n)
  | some .string => ∃ n : ByteArray, F (.string n)
  | some (.pointer _) => ∃ n : Option Addr, F (.pointer n)
  | some .unsafePointer => ∃ n : Option Addr, F (.pointer n)
  | some (.slice _) => ∃ n : Sl, F (slv n)
  | some (.map _ _) => ∃ n : Option Nat, F (.map n)
  | _ => ∃ v : Value, F v
def ldAgg (P : Program) (a : Addr) : List TypeId → Nat → (List Value → World → Prop) → World → Prop
  | [], _, k, w => k [] w
  | t :: ts, i, k, w => ldCell P t (a.add i) (fun v w => ldAgg P a ts (i + 1) (fun l w => k (v :: l) w) w) w
def exAgg (P : Program) : List TypeId → (List Value → Prop) → Prop
  | [], F => F []
  | t :: ts, F => exCell P t fun c => exAgg P ts fun l => F (c :: l)
def exV (P : Program) (t : TypeId) (F : Value → Prop) : Prop := if arrT P t then ∃ cs : Array Value, F (.agg cs) else if aggT P t then exAgg P (cellTys P 9 t) (fun l => F (.agg l.toArray)) else exCell P t F
def exTup (P : Program) : List TypeId → (List Value → Prop) → Prop
  | [], F => F []
  | t :: ts, F => exV P t fun c => exTup P ts fun l => F (c :: l)
/-- A call's result, by its static type. -/
def asR (P : Program) (t : TypeId) (v : Value) (k : Value → Prop) : Prop :=
  match P.underlying t with
  | some (.tuple ts) => exTup P ts.toList (fun l => v = .tuple l.toArray ∧ k (.tuple l.toArray))
  | _ => exV P t (fun u => v = u ∧ k u)

def ldV (P : Program) (t : TypeId) (a : Addr) (k : Value → World → Prop) (w : World) : Prop :=
  if arrT P t then (match P.info? t with | some i => LDA i.size a (fun cs w => k (.agg cs) w) w | none => False) else if aggT P t then (if (P.info? t).map (·.size) = some (cellTys P 9 t).length then ldAgg P a (cellTys P 9 t) 0 (fun l w => k (.agg l.toArray) w) w else False) else ldCell P t a k w
def stAll (a : Addr) (k : World → Prop) : List Value → Nat → World → Prop
  | [], _, w => k w
  | v :: vs, i, w => ST (a.add i) v (fun w => stAll a k vs (i + 1) w) w
def stV (P : Program) (t : TypeId) (a : Addr) (v : Value) (k : World → Prop) (w : World) : Prop :=
  if arrT P t then (match P.info? t, v with | some i, .agg cs => RQ (cs.size = i.size) (stAll a k cs.toList 0 w) | _, _ => False) else if (P.info? t).map (·.size) = some v.cells.size then stAll a k v.cells.toList 0 w else False

/-! ### Integers -/
def intBit (op : BinOp) (κ : IntKind) (a b : Int) : Int :=
  let x := BitVec.ofInt κ.bits a
  let y := BitVec.ofInt κ.bits b
  κ.wrap (match op with | .and => (x &&& y).toNat | .or => (x ||| y).toNat | .xor => (x ^^^ y).toNat | _ => (x &&& ~~~y).toNat)
def strLt (x y : ByteArray) : Bool := Op.bytesLess x.toList y.toList

def eqScalar : Value → Value → Option Bool
  | .int κ a, .int κ' b => if κ = κ' then some (a == b) else none
  | .bool a, .bool b => some (a == b)
  | .string a, .string b => some (decide (a = b))
  | _, _ => none

/-- Two pointers. -/
def PEQ (p q : Option Addr) (k : Bool → Prop) : Prop :=
  match q with
  | none => k p.isNone
  | some b => match p with
    | none => k false
    | some a => a.block = b.block ∧ k (a == b)

def binK (op : BinOp) (x y : Value) (k : Value → Prop) : Prop :=
  match op, x, y with
  | .shl, .int κ a, .int _ b => RQ (0 ≤ b) (k (.int κ (κ.wrap (a * 2 ^ (min b.toNat κ.bits)))))
  | .shr, .int κ a, .int _ b => RQ (0 ≤ b) (k (.int κ (a.fdiv (2 ^ (min b.toNat κ.bits)))))
  | .add, .int κ a, .int κ' b => if κ = κ' then k (.int κ (κ.wrap (a + b))) else False
  | .sub, .int κ a, .int κ' b => if κ = κ' then k (.int κ (κ.wrap (a - b))) else False
  | .mul, .int κ a, .int κ' b => if κ = κ' then k (.int κ (κ.wrap (a * b))) else False
  | .quo, .int κ a, .int κ' b => if κ = κ' then RQ (b ≠ 0) (k (.int κ (κ.wrap (a.tdiv b)))) else False
  | .rem, .int κ a, .int κ' b => if κ = κ' then RQ (b ≠ 0) (k (.int κ (a.tmod b))) else False
  | .and, .int κ a, .int κ' b => if κ = κ' then k (.int κ (intBit .and κ a b)) else False
  | .or, .int κ a, .int κ' b => if κ = κ' then k (.int κ (intBit .or κ a b)) else False
  | .xor, .int κ a, .int κ' b => if κ = κ' then k (.int κ (intBit .xor κ a b)) else False
  | .andNot, .int κ a, .int κ' b => if κ = κ' then k (.int κ (intBit .andNot κ a b)) else False
  | .eql, .int κ a, .int κ' b => if κ = κ' then k (.bool (a == b)) else False
  | .neq, .int κ a, .int κ' b => if κ = κ' then k (.bool (a != b)) else False
  | .lss, .int κ a, .int κ' b => if κ = κ' then k (.bool (decide (a < b))) else False
  | .leq, .int κ a, .int κ' b => if κ = κ' then k (.bool (decide (a ≤ b))) else False
  | .gtr, .int κ a, .int κ' b => if κ = κ' then k (.bool (decide (b < a))) else False
  | .geq, .int κ a, .int κ' b => if κ = κ' then k (.bool (decide (b ≤ a))) else False
  | .add, .string a, .string b => RQ (((a.size + b.size : Nat) : Int) ≤ 9223372036854775807) (k (.string (a ++ b)))
  | .eql, .string a, .string b => k (.bool (decide (a = b)))
  | .neq, .string a, .string b => k (.bool (!decide (a = b)))
  | .lss, .string a, .string b => k (.bool (strLt a b))
  | .leq, .string a, .string b => k (.bool (strLt a b || decide (a = b)))
  | .gtr, .string a, .string b => k (.bool !(strLt a b || decide (a = b)))
  | .geq, .string a, .string b => k (.bool (!strLt a b))
  | _, _, _ => False
/-- Is a function value nil? -/
def FNIL (x : Value) (k : Bool → Prop) : Prop := match x with | .nilFunc => k true | .func _ _ _ => k false | _ => False
/-- Is a value of an interface's type nil? -/
def INIL (x : Value) (k : Bool → Prop) : Prop := match x with | .nilIface => k true | .iface _ _ => k false | _ => False
def eqFld (P : Program) (t : TypeId) (x y : Value) : Option Bool :=
  match P.underlying t, x, y with
  | some (.int _), .int κ a, .int κ' b => if κ = κ' then some (a == b) else none
  | some .bool, .bool a, .bool b => some (a == b)
  | some .string, .string a, .string b => some (decide (a = b))
  | _, _, _ => none
/-- Structs of numbers, bools and strings alone: field by field. -/
def eqFs (P : Program) : List Field → Nat → List Value → List Value → Option Bool
  | [], _, [], [] => some true
  | f :: fs, n, x :: xs, y :: ys => if (f.name != "_") && f.offset == n then (match eqFld P f.type x y, eqFs P fs (n + 1) xs ys with | some a, some b => some (a && b) | _, _ => none) else none
  | _, _, _, _ => none
def flatT (P : Program) (t : TypeId) : Bool := !P.stoodInHeld t && !P.eqGuardType P.depth t
/-- '==' of what is no number and no string. -/
def eqK (P : Program) (t : TypeId) (x y : Value) (k : Bool → Prop) : Prop :=
  match P.underlying t with
  | some .bool => match x, y with | .bool a, .bool b => k (a == b) | _, _ => False
  | some (.pointer e) => match x, y with | .pointer p, .pointer q => if (P.info? e).any (·.size != 0) then PEQ p q k else False | _, _ => False
  | some (.slice _) => match x, y with | .slice p _ _, .slice none _ _ => k p.isNone | _, _ => False
  | some (.map ..) => match x, y with | .map p, .map none => k p.isNone | _, _ => False
  | some (.func ..) => match y with | .nilFunc => FNIL x k | _ => False
  | some (.struct fs) => match x, y with | .agg xs, .agg ys => if flatT P t then (match eqFs P fs.toList 0 xs.toList ys.toList with | some b => k b | none => False) else False | _, _ => False
  | some (.interface _) => match y with | .nilIface => INIL x k | _ => False
  | _ => False

/-! ### Maps -/
def mapGet (w : World) (r : Option Nat) (kd : TypeDesc) (key : Value) : Option (Option Value) :=
  match r with
  | none => some none
  | some b => match w.heap[b]? with
    | some (.map es _) => (Instr.findNow kd key es.toList 0).map (·.map (·.2))
    | _ => none
def LK (r : Option Nat) (kd : TypeDesc) (key zero : Value) (k : Value → Bool → World → Prop) (w : World) : Prop :=
  ∃ ov, mapGet w r kd key = some ov ∧ k (ov.getD zero) ov.isSome w
def mapPut (kd : TypeDesc) (es : Array MapEntry) (clock : Nat) (key v : Value) : Option Obj :=
  match Instr.findNow kd key es.toList 0 with
  | some (some (i, _)) => some (.map (es.modify i fun e => { e with key, val := v }) clock)
  | some none => some (.map (es.push { key, val := v, born := clock }) (clock + 1))
  | none => none
def MU (r : Option Nat) (kd : TypeDesc) (key v : Value) (k : World → Prop) (w : World) : Prop :=
  ∃ b es clock o, r = some b ∧ w.heap[b]? = some (.map es clock) ∧ mapPut kd es clock key v = some o ∧ k (w.putObj b o)
def MD (r : Option Nat) (kd : TypeDesc) (key : Value) (k : World → Prop) (w : World) : Prop :=
  (r = none ∧ k w) ∨ ∃ b es clock res, r = some b ∧ w.heap[b]? = some (.map es clock) ∧ Instr.findNow kd key es.toList 0 = some res ∧
    k (w.putObj b (.map (match res with | some (i, _) => es.eraseIdxIfInBounds i | none => es) clock))
def MLEN (r : Option Nat) (k : Int → World → Prop) (w : World) : Prop :=
  (r = none ∧ k 0 w) ∨ ∃ b es clock, r = some b ∧ w.heap[b]? = some (.map es clock) ∧ k (es.size : Int) w
def plainKey (d : TypeDesc) : Bool := match d with | .int _ | .string | .bool => true | _ => false

/-! ### append, copy -/
def zeroCellsL (zero : Array Value) (n : Nat) : List Value := (Builtin.zeroCells zero n).toList
def APP (t : TypeId) (sz bytes : Nat) (zero : Array Value) (s : Sl) (n : Nat) (new : World → Option (List Value)) (k : Sl → World → Prop) (w : World) : Prop :=
  ∃ vs, new w = some vs ∧
    ((s.2.1 + n ≤ s.2.2 ∧ (match s.1 with | some a => stAll (a.add (s.2.1 * sz)) (k (s.1, s.2.1 + n, s.2.2)) vs 0 w | none => k (s.1, s.2.1 + n, s.2.2) w)) ∨
     (s.2.2 < s.2.1 + n ∧ Builtin.nextslicecap (s.2.1 + n) s.2.2 * bytes ≤ 281474976710656 ∧ bytes ≠ 0 ∧
       ∃ old, cellsOfS w s (s.2.1 * sz) = some old ∧
       ∀ c, s.2.1 + n ≤ c → k (some ⟨w.heap.size, 0, none⟩, s.2.1 + n, c) ((w.drew).alloc (.cells ((old ++ vs).toArray ++ Builtin.zeroCells zero (c - (s.2.1 + n))) t))))
def CPY (sz : Nat) (d s : Sl) (k : Int → World → Prop) (w : World) : Prop :=
  ∃ vs, cellsOfS w s (min s.2.1 d.2.1 * sz) = some vs ∧ (match d.1 with | some a => stAll a (k (min s.2.1 d.2.1 : Nat)) vs 0 w | none => k (min s.2.1 d.2.1 : Nat) w)
def CLR (zero : Array Value) (s : Sl) (k : World → Prop) (w : World) : Prop :=
  if s.2.1 = 0 then k w else match s.1 with
    | none => k w
    | some a => stAll a k (zeroCellsL zero s.2.1) 0 w

/-- Bytes and strings. -/
def u8T (P : Program) (t : TypeId) : Bool := match P.underlying t with | some (.int .u8) => true | _ => false
def B2S (s : Sl) (k : ByteArray → World → Prop) (w : World) : Prop := ∃ l : List UInt8, l.length = s.2.1 ∧ cellsOfS w s s.2.1 = some (l.map fun b => .int .u8 b.toNat) ∧ k ⟨l.toArray⟩ w
def S2B (e : TypeId) (s : ByteArray) (k : Sl → World → Prop) (w : World) : Prop :=
  ∀ c, s.size ≤ c → k (some ⟨w.heap.size, 0, none⟩, s.size, c) ((w.drew).alloc (.cells (s.data.map (fun b => .int .u8 b.toNat) ++ Array.replicate (c - s.size) (.int .u8 0)) e (c, c + 1)))
def MKS (a : Addr) (k : World → Prop) (w : World) : Prop := ∃ e n, w.shape? a.block = some (e, n) ∧ k (w.freeze ⟨a.block, n, none⟩ 1)
def convStill (P : Program) (src dst : TypeId) : Bool := match P.underlying src, P.underlying dst with | some (.slice _), _ => false | _, some (.slice _) => false | some .unsafePointer, _ => false | _, some .unsafePointer => false | _, _ => true

def sliceB (x : Option Value) (d y : Nat) (k : Nat → Prop) : Prop :=
  match x with
  | none => k d
  | some (.int _ i) => RQ (0 ≤ i ∧ i ≤ y) (k i.toNat)
  | _ => False

def denBuiltin (P : Program) (b : Builtin) (argTypes : Array TypeId) (type : TypeId) (args : List Value) (k : Value → World → Prop) (w : World) : Prop :=
  match b, args with
  | .len, [x] => match argTypes[0]? with
    | some t => match P.underlying t, x with
      | some .string, .string s => k (.int .i64 s.size) w
      | some (.slice _), .slice _ n _ => k (.int .i64 n) w
      | some (.array n _), _ => k (.int .i64 n) w
      | some (.map ..), .map r => MLEN r (fun n w => k (.int .i64 n) w) w
      | _, _ => False
    | none => False
  | .cap, [x] => match argTypes[0]? with
    | some t => match P.underlying t, x with
      | some (.slice _), .slice _ _ n => k (.int .i64 n) w
      | _, _ => False
    | none => False
  | .append, [x, y] => match argTypes[0]?, argTypes[1]? with
    | some t, some u => match P.underlying t, P.underlying u, x, y with
      | some (.slice e), some (.slice _), .slice p n c, .slice p' n' c' => match P.info? e with
        | some i => match i.zero with
          | some z => APP e i.size i.bytes z.cells (p, n, c) n' (fun w => cellsOfS w (p', n', c') (n' * i.size)) (fun s w => k (slv s) w) w
          | none => False
        | none => False
      | some (.slice e), some .string, .slice p n c, .string s => match P.info? e with
        | some i => match i.zero with
          | some z => if i.size = 1 then APP e i.size i.bytes z.cells (p, n, c) s.size (fun _ => some (s.data.toList.map fun b => .int .u8 b.toNat)) (fun s w => k (slv s) w) w else False
          | none => False
        | none => False
      | some (.slice e), some (.int _), .slice p n c, .int κ m => match P.info? e with
        | some i => match i.zero with
          | some z => RQ (0 ≤ m ∧ m ≤ 9223372036854775807 ∧ κ = .i64 ∧ m * i.bytes ≤ 281474976710656 ∧ i.size ≠ 0 ∧ (n : Int) + m ≤ 9223372036854775807) (APP e i.size i.bytes z.cells (p, n, c) m.toNat (fun _ => some (zeroCellsL z.cells m.toNat)) (fun s w => k (slv s) w) w)
          | none => False
        | none => False
      | _, _, _, _ => False
    | _, _ => False
  | .copy, [x, y] => match argTypes[0]? with
    | some t => match P.underlying t, x, y with
      | some (.slice e), .slice p n c, .slice p' n' c' => match P.info? e with
        | some i => CPY i.size (p, n, c) (p', n', c') (fun m w => k (.int .i64 m) w) w
        | none => False
      | _, _, _ => False
    | none => False
  | .clear, [x] => match argTypes[0]? with
    | some t => match P.underlying t, x with
      | some (.slice e), .slice p n c => match P.info? e with
        | some i => match i.zero with
          | some z => CLR z.cells (p, n, c) (fun w => k (.tuple #[]) w) w
          | none => False
        | none => False
      | _, _ => False
    | none => False
  | .delete, [x, key] => match argTypes[0]? with
    | some t => match P.underlying t, x with
      | some (.map kt _), .map r => match P.underlying kt with
        | some kd => if plainKey kd then MD r kd key (fun w => k (.tuple #[]) w) w else False
        | none => False
      | _, _ => False
    | none => False
  | .unsafeSliceData, [x] => RV P (Builtin.unsafeSliceData_ argTypes type [x].toArray) (fun v w => exCell P type fun u => v = u ∧ k u w) w
  | .unsafeString, [x, y] => RV P (Builtin.unsafeString_ argTypes type [x, y].toArray) (fun v w => exCell P type fun u => v = u ∧ k u w) w
  | .max, [.int κ a, .int _ b] => k (.int κ (if b > a then b else a)) w
  | .min, [.int κ a, .int _ b] => k (.int κ (if b < a then b else a)) w
  | _, _ => False

def buildV (P : Program) (t : TypeId) (parts : List (Nat × Value)) : Option Value :=
  match P.info? t with
  | some i => match i.zero, P.underlying t with
    | some z, some (.struct fields) => match (fields.toList.mapM fun f => (P.info? f.type).map fun j => (f.offset, j.size)) with
      | some places => (Instr.fill (places.toArray[·]?) z.cells parts).map .agg
      | none => none
    | some z, some (.array _ e) => match P.info? e with
      | some j => (Instr.fill (fun i => some (i * j.size, j.size)) z.cells parts).map .agg
      | none => none
    | _, _ => none
  | none => none
def buildSliceC (P : Program) (t : TypeId) (len : Nat) (parts : List (Nat × Value)) : Option (TypeId × Array Value) :=
  match P.underlying t with
  | some (.slice e) => match P.info? e with
    | some j => match j.zero with
      | some z => if len * j.size > 16777216 then none else
        (Instr.fill (fun i => some (i * j.size, j.size)) ((Array.range (len * j.size)).map ((if len * j.size = 0 then #[] else z.cells)[· % (if len * j.size = 0 then #[] else z.cells).size]!)) parts).map fun c => (e, c)
      | none => none
    | none => none
  | _ => none
def fieldOff (P : Program) (s : TypeId) (f : Nat) : Option (Nat × TypeId) :=
  match P.underlying s with
  | some (.struct fields) => match fields[f]? with
    | some f => match P.info? f.type with
      | some i => if i.size = 0 then none else some (f.offset, f.type)
      | none => none
    | none => none
  | _ => none
def nthO : List Value → Nat → (Value → Prop) → Prop
  | [], _, _ => False
  | x :: _, 0, k => k x
  | _ :: xs, n + 1, k => nthO xs n k
def takeK : List Value → Nat → (List Value → Prop) → Prop
  | _, 0, k => k []
  | [], _ + 1, _ => False
  | x :: xs, n + 1, k => takeK xs n fun l => k (x :: l)
def subK : List Value → Nat → Nat → (List Value → Prop) → Prop
  | xs, 0, n, k => takeK xs n k
  | [], _ + 1, _, _ => False
  | _ :: xs, o + 1, n, k => subK xs o n k
/-- A part of a struct's cells. -/
def partK (P : Program) (t : TypeId) (cs : List Value) (off : Nat) (k : Value → Prop) : Prop :=
  match P.info? t, P.underlying t with
  | some i, some _ => if aggT P t then subK cs off i.size (fun l => k (.agg l.toArray)) else nthO cs off k
  | _, _ => False
theorem nthO_out {k : Value → Prop} : ∀ {l : List Value} {n : Nat}, nthO l n k → ∃ v, l[n]? = some v ∧ k v
  | [], _, h => h.elim
  | x :: _, 0, h => ⟨x, rfl, h⟩
  | _ :: xs, n + 1, h => by simpa using nthO_out (l := xs) (n := n) h
theorem takeK_out {k : List Value → Prop} : ∀ {l : List Value} {n : Nat}, takeK l n k → n ≤ l.length ∧ k (l.take n)
  | _, 0, h => ⟨Nat.zero_le _, by simpa [takeK] using h⟩
  | [], _ + 1, h => h.elim
  | x :: xs, n + 1, h => by
    obtain ⟨h1, h2⟩ := takeK_out (l := xs) (n := n) (k := fun l => k (x :: l)) h
    exact ⟨by simp; omega, by simpa using h2⟩
theorem subK_out {k : List Value → Prop} : ∀ {l : List Value} {o n : Nat}, subK l o n k → o + n ≤ l.length ∧ k ((l.drop o).take n)
  | l, 0, n, h => by
    have h' : takeK l n k := by cases l <;> exact h
    obtain ⟨h1, h2⟩ := takeK_out (l := l) (n := n) h'
    exact ⟨by omega, by simpa using h2⟩
  | [], _ + 1, _, h => h.elim
  | _ :: xs, o + 1, n, h => by
    obtain ⟨h1, h2⟩ := subK_out (l := xs) (o := o) (n := n) h
    exact ⟨by simp; omega, by simpa using h2⟩

/-! ### Temporaries as literal lists: a value is put, and looked up, so that a literal stays a literal -/
def setK (v : Value) : List Value → Nat → (List Value → Prop) → Prop
  | [], _, k => k []
  | _ :: xs, 0, k => k (v :: xs)
  | x :: xs, n + 1, k => setK v xs n fun ys => k (x :: ys)
theorem setK_eq (v : Value) : ∀ (l : List Value) (n : Nat) (k : List Value → Prop), setK v l n k = k (l.set n v)
  | [], _, _ => rfl
  | _ :: _, 0, _ => rfl
  | x :: xs, n + 1, k => by simp only [setK, setK_eq v xs n, List.set_cons_succ]
def nthK : List Value → Nat → (Value → Prop) → Prop
  | [], _, k => k undef
  | x :: _, 0, k => k x
  | _ :: xs, n + 1, k => nthK xs n k
theorem nthK_eq : ∀ (l : List Value) (n : Nat) (k : Value → Prop), nthK l n k = k (l.getD n undef)
  | [], _, _ => by simp [nthK]
  | _ :: _, 0, _ => by simp [nthK]
  | x :: xs, n + 1, k => by simp [nthK, nthK_eq xs n]
def putA (a : Act) (d : Option Tmp) (v : Value) (k : Act → Prop) : Prop :=
  match d with
  | none => k a
  | some d => match a with
    | ⟨t, ds⟩ => setK v t.toList d fun l => k { tmps := l.toArray, defers := ds }
theorem putA_eq (a : Act) (d : Option Tmp) (v : Value) (k : Act → Prop) : putA a d v k = k (a.put d v) := by
  cases d with
  | none => rfl
  | some d =>
    simp only [putA, setK_eq, Act.put]
    congr 2
    apply Array.ext'
    simp
def evA (a : Act) (x : Operand) (k : Value → Prop) : Prop :=
  match x with
  | .tmp t => nthK a.tmps.toList t k
  | .const v => k v
  | .global g => k (.pointer (some ⟨g, 0, none⟩))
  | .func f => k (.func (.func f) #[] #[])
theorem evA_eq (a : Act) (x : Operand) (k : Value → Prop) : evA a x k = k (a.eval x) := by
  cases x with
  | tmp t => simp [evA, nthK_eq, Act.eval]
  | _ => rfl

/-- A value, and a list of values, with its cells worked out; no more than 'k v' and 'k l'. -/
def valK (v : Value) (k : Value → Prop) : Prop :=
  match v with
  | .int κ n => k (.int κ n)
  | .bool b => k (.bool b)
  | .pointer a => k (.pointer a)
  | .string s => k (.string s)
  | .slice a l c => k (.slice a l c)
  | .map r => k (.map r)
  | .func f a b => k (.func f a b)
  | v => k v
theorem valK_eq (v : Value) (k : Value → Prop) : valK v k = k v := by cases v <;> rfl
def valT (P : Program) (t : TypeId) (v : Value) (k : Value → Prop) : Prop :=
  match P.underlying t with
  | some (.int _) | some .bool | some .string | some (.pointer _) | some (.slice _) | some (.map _ _) => valK v k
  | _ => k v
theorem valT_eq (P : Program) (t : TypeId) (v : Value) (k : Value → Prop) : valT P t v k = k v := by
  unfold valT; split <;> simp only [valK_eq]
def litT (P : Program) : List TypeId → List Value → (List Value → Prop) → Prop
  | _, [], k => k []
  | [], x :: xs, k => litT P [] xs fun l => k (x :: l)
  | t :: ts, x :: xs, k => valT P t x fun x => litT P ts xs fun l => k (x :: l)
theorem litT_eq (P : Program) : ∀ (ts : List TypeId) (l : List Value) (k : List Value → Prop), litT P ts l k = k l
  | _, [], _ => by simp only [litT]
  | [], x :: xs, k => by simp only [litT, litT_eq P [] xs]
  | t :: ts, x :: xs, k => by simp only [litT, valT_eq, litT_eq P ts xs]
def aggK (P : Program) (t : TypeId) (v : Value) (k : Value → Prop) : Prop :=
  match v with
  | .agg cs => litT P (cellTys P 9 t) cs.toList fun l => k (.agg l.toArray)
  | v => k v
theorem aggK_eq (P : Program) (t : TypeId) (v : Value) (k : Value → Prop) : aggK P t v k = k v := by cases v <;> simp only [aggK, litT_eq]
/-- Operands, one after another. -/
def evL (a : Act) : List Operand → (List Value → Prop) → Prop
  | [], k => k []
  | x :: xs, k => evA a x fun v => evL a xs fun l => k (v :: l)
theorem evL_eq (a : Act) : ∀ (l : List Operand) (k : List Value → Prop), evL a l k = k (l.map a.eval)
  | [], _ => rfl
  | x :: xs, k => by simp only [evL, evA_eq, evL_eq a xs, List.map_cons]

def denOp (P : Program) (o : Oper) (ac : Act) (k : Value → World → Prop) (w : World) : Prop :=
  match o.op with
  | .move x => evA ac x fun v => k v w
  | .assign x => evA ac x fun v => k v w
  | .pick c a b => match ac.eval c with | .bool t => brK t (evA ac a fun v => k v w) (evA ac b fun v => k v w) | _ => False
  | .alloc t => match P.info? t with
    | some i => match i.zero with | some z => AL (.cells z.cells t) (fun b w => k (.pointer (some ⟨b, 0, none⟩)) w) w | none => False
    | none => False
  | .box t x => AL (.cells (ac.eval x).cells t) (fun b w => k (.pointer (some ⟨b, 0, none⟩)) w) w
  | .build t parts => evL ac (parts.toList.map (·.2)) fun l => match buildV P t ((parts.toList.map (·.1)).zip l) with | some v => aggK P t v fun v => k v w | none => False
  | .buildSlice t len parts => evL ac (parts.toList.map (·.2)) fun l => match buildSliceC P t len ((parts.toList.map (·.1)).zip l) with
    | some (e, c) => litT P (List.replicate len (cellTys P 9 e)).flatten c.toList fun l => AL (.cells l.toArray e) (fun b w => k (.slice (some ⟨b, 0, none⟩) len len) w) w
    | none => False
  | .load t a => match ac.eval a with | .pointer (some p) => ldV P t p k w | _ => False
  | .store t a x => match ac.eval a with | .pointer (some p) => evA ac x fun v => stV P t p v (fun w => k undef w) w | _ => False
  | .nilCheck x => match ac.eval x with
    | .pointer p => NN p fun a => k (.pointer (some a)) w
    | _ => False
  | .binOp op t x y _ => match P.underlying t with
    | some (.int _) => binK op (ac.eval x) (ac.eval y) (fun v => k v w)
    | some .string => binK op (ac.eval x) (ac.eval y) (fun v => k v w)
    | some (.interface _) => match y with
      | .const _ => match op with
        | .eql => eqK P t (ac.eval x) (ac.eval y) (fun b => k (.bool b) w)
        | .neq => eqK P t (ac.eval x) (ac.eval y) (fun b => k (.bool (!b)) w)
        | _ => False
      | _ => False
    | _ => match op with
      | .eql => eqK P t (ac.eval x) (ac.eval y) (fun b => k (.bool b) w)
      | .neq => eqK P t (ac.eval x) (ac.eval y) (fun b => k (.bool (!b)) w)
      | _ => False
  | .unOp op _ x => match op, ac.eval x with
    | .not, .bool b => k (.bool (!b)) w
    | .neg, .int κ n => k (.int κ (κ.wrap (0 - n))) w
    | _, _ => False
  | .convert src dst x => match P.underlying src, P.underlying dst, ac.eval x with
    | some _, some (.int κ), .int _ n => k (.int κ (κ.wrap n)) w
    | some _, some .string, .string s => k (.string s) w
    | some (.int _), some .string, .int _ n => k (.string (Utf8.encode n)) w
    | some (.slice e), some .string, .slice p n c => if u8T P e then B2S (p, n, c) (fun s w => k (.string s) w) w else False
    | some .string, some (.slice e), .string s => if u8T P e then S2B e s (fun sl w => k (slv sl) w) w else False
    | some (.pointer _), some .unsafePointer, .pointer p => RV P (convert src dst (.pointer p)) (fun v w => exCell P dst fun u => v = u ∧ k u w) w
    | some .unsafePointer, some (.pointer _), .pointer p => RV P (convert src dst (.pointer p)) (fun v w => exCell P dst fun u => v = u ∧ k u w) w
    | some (.slice _), some (.slice e), .slice (some a) n c => if src == dst && u8T P e then MKS a (fun w => k (.slice (some a) n c) w) w else False
    | _, _, _ => False
  | .makeFunc fn first captured => evL ac first.toList fun l => evL ac captured.toList fun m => k (.func fn l.toArray m.toArray) w
  | .makeSlice t l c => match P.underlying t, ac.eval l, ac.eval c with
    | some (.slice e), .int _ l, .int _ c => match P.info? e with
      | some i => match i.zero with
        | some z => if i.size = z.cells.size then RQ (0 ≤ l ∧ l ≤ c ∧ c ≤ 9223372036854775807 ∧ (i.bytes : Int) * c ≤ 281474976710656) (AL (.cells (Builtin.zeroCells z.cells c.toNat) e) (fun b w => k (.slice (some ⟨b, 0, none⟩) l.toNat c.toNat) w) w) else False
        | none => False
      | none => False
    | _, _, _ => False
  | .makeMap _ none => AL (.map #[] 0) (fun b w => k (.map (some b)) w) w
  | .slice t x lo hi none => match P.underlying t, ac.eval x with
    | some .string, .string s => sliceB (hi.map ac.eval) s.size s.size fun h => sliceB (lo.map ac.eval) 0 h fun l => k (.string (s.extract l h)) w
    | some (.slice e), .slice p n c => match P.info? e with
      | some i => sliceB (hi.map ac.eval) n c fun h => sliceB (lo.map ac.eval) 0 h fun l => k (slv (slSub (p, n, c) l h i.size)) w
      | none => False
    | _, _ => False
  | .slice t x lo (some hi) (some mx) => match P.underlying t, ac.eval x, ac.eval mx with
    | some (.slice e), .slice p n c, .int _ m => match P.info? e with
      | some i => RQ (0 ≤ m ∧ m ≤ c) (sliceB (some (ac.eval hi)) n m.toNat fun h => sliceB (lo.map ac.eval) 0 h fun l => k (slv (slSub3 (p, n, c) l h m.toNat i.size)) w)
      | none => False
    | _, _, _ => False
  | .fieldAddr s x f => match ac.eval x with
    | .pointer (some a) => match fieldOff P s f with | some (off, _) => k (.pointer (some (a.add off))) w | none => False
    | _ => False
  | .field s x f => match ac.eval x, fieldOff P s f with
    | .agg cs, some (off, t) => partK P t cs.toList off fun v => k v w
    | _, _ => False
  | .indexAddr t x ix => match P.underlying t, ac.eval x, ac.eval ix with
    | some (.slice e), .slice p n c, .int _ i => match P.info? e with
      | some j => IX (p, n, c) i j.size fun a => k (.pointer (some a)) w
      | none => False
    | some (.array n e), .pointer (some a), .int _ i => match P.info? e with
      | some j => RQ (0 ≤ i ∧ i < n) (k (.pointer (some (a.add (i.toNat * j.size)))) w)
      | none => False
    | _, _, _ => False
  | .index t x ix => match P.underlying t, ac.eval x, ac.eval ix with
    | some .string, .string s, .int _ i => SIX s i fun b => k (.int .u8 b) w
    | _, _, _ => False
  | .lookup t x ix ok => match P.underlying t, ac.eval x with
    | some (.map kt et), .map r => match P.underlying kt, P.info? et with
      | some kd, some i => match i.zero with
        | some z => if plainKey kd then LK r kd (ac.eval ix) z (fun v b w => exV P et fun u => v = u ∧ k (if ok then .tuple #[u, .bool b] else u) w) w else False
        | none => False
      | _, _ => False
    | _, _ => False
  | .mapUpdate t m key v => match P.underlying t, ac.eval m with
    | some (.map kt _), .map r => match P.underlying kt with
      | some kd => if plainKey kd then MU r kd (ac.eval key) (ac.eval v) (fun w => k undef w) w else False
      | none => False
    | _, _ => False
  | .insert t m key v => match P.underlying t, ac.eval m with
    | some (.map kt _), .map r => match P.underlying kt with
      | some kd => if plainKey kd then MU r kd (ac.eval key) (ac.eval v) (fun w => k undef w) w else False
      | none => False
    | _, _ => False
  | .extract t i => match ac.eval t with
    | .tuple vs => nthO vs.toList i fun v => k v w
    | _ => False
  | .call c => match c.callee with
    | .value f => evL ac c.args.toList fun l => match f with
      | .func g => CALL P g l.toArray (fun v w => asR P o.type v fun u => k u w) w
      | f => evA ac f fun f => DYN P f l.toArray (fun v w => asR P o.type v fun u => k u w) w
    | .builtin b => evL ac c.args.toList fun l => denBuiltin P b c.argTypes o.type l k w
    | .invoke _ _ => False
  | _ => False

end Go.Proofs.YtlefdgplobifiaaGreatDoor
