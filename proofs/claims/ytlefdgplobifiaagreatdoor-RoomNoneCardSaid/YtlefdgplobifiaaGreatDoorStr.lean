/- Strings as lists of bytes: their primitives; folding. -/
import Derived.Test.YtlefdgplobifiaaGreatDoorRow2
set_option linter.unusedVariables false
set_option linter.unusedSimpArgs false
namespace Go.Proofs.YtlefdgplobifiaaGreatDoor
open Go
theorem w64' {n : Int} (h : -9223372036854775808 ≤ n ∧ n ≤ 9223372036854775807) : IntKind.wrap .i64 n = n := by rw [IntKind.wrap_i64]; omega
theorem w8 (n : Int) : IntKind.wrap .u8 n = n % 256 := by
  simp [IntKind.wrap, IntKind.signed, IntKind.bits]
theorem RQ_r {p X : Prop} (hp : p) (hX : X) : RQ p X := ⟨hp, hX⟩
theorem take_one {α : Type} {l : List α} {i : Nat} {x : α} (h : l[i]? = some x) : l.take (i + 1) = l.take i ++ [x] := by rw [List.take_add_one, h]; rfl
/-- A string out of its bytes. -/
abbrev St (l : List UInt8) : ByteArray := ⟨l.toArray⟩
theorem St_of (s : ByteArray) : s = St s.data.toList := by cases s; simp [St]
theorem St_inj {a b : List UInt8} : St a = St b ↔ a = b := by
  constructor
  · intro h
    have := congrArg (fun s : ByteArray => s.data.toList) h
    simpa [St] using this
  · rintro rfl; rfl
theorem St_eq (a b : List UInt8) : decide (St a = St b) = decide (a = b) := by simp only [St_inj]
theorem St_app (a b : List UInt8) : St a ++ St b = St (a ++ b) := by
  apply ByteArray.ext
  simp [St, ByteArray.data_append]
theorem St_size (l : List UInt8) : (St l).size = l.length := by simp [St, ByteArray.size]
theorem St_get (l : List UInt8) (i : Nat) : (St l)[i]? = l[i]? := by
  by_cases h : i < l.length
  · have h' : i < (St l).size := by rw [St_size]; exact h
    rw [getElem?_pos (St l) i h', getElem?_pos l i h]
    congr 1
  · have h' : ¬ i < (St l).size := by rw [St_size]; exact h
    rw [getElem?_neg (St l) i h', getElem?_neg l i h]
theorem St_ext (l : List UInt8) (i j : Nat) : (St l).extract i j = St ((l.take j).drop i) := by
  apply ByteArray.ext
  rw [ByteArray.data_extract]
  apply Array.ext'
  simp [St, List.extract_eq_take_drop, List.drop_take]
theorem St_list (l : List UInt8) : (St l).data.toList = l := by simp [St]
theorem SIX_r {l : List UInt8} {i : Int} {b : UInt8} {k : Int → Prop} (h0 : 0 ≤ i) (h : l[i.toNat]? = some b) (hk : k (b.toNat : Int)) : SIX (St l) i k := ⟨b, h0, by rw [St_get]; exact h, hk⟩
section
variable {w : World} {l r : List HProp} {k : Value → World → Prop}
/-- One byte, in a row of its own, as a string. -/
theorem B2S_one {q : Nat} {t : TypeId} {b : UInt8} {k : ByteArray → World → Prop} (hw : SatL w (own Blk q (.cells #[.int .u8 (b.toNat : Int)] t (0, 0)) :: l)) (hk : k (St [b]) w) : B2S (some ⟨q, 0, none⟩, 1, 1) k w := by
  refine ⟨[b], rfl, ?_, hk⟩
  show cellsAt w ⟨q, 0, none⟩ 0 1 = _
  rw [cellsAt_r hw.get (by simp)]
  simp
end
/-! ### Folding -/
def foldN (n : Int) : Int := if 65 ≤ n ∧ n ≤ 90 then n + 32 else if n = 91 ∨ n = 93 ∨ n = 92 then n + 32 else if n = 126 then 94 else n
def foldU (b : UInt8) : UInt8 := UInt8.ofNat (foldN b.toNat).toNat
theorem u8_lt (b : UInt8) : (b.toNat : Int) < 256 := by have := b.toNat_lt; omega
theorem foldU_nat (b : UInt8) : ((foldU b).toNat : Int) = foldN b.toNat := by
  have h := u8_lt b
  have h1 : 0 ≤ foldN b.toNat ∧ foldN b.toNat < 256 := by
    unfold foldN
    split
    · omega
    · split
      · omega
      · split <;> omega
  unfold foldU
  rw [UInt8.toNat_ofNat']
  have h2 := h1.1; have h3 := h1.2
  omega
theorem u8_inj {a b : UInt8} (h : (a.toNat : Int) = b.toNat) : a = b := UInt8.toNat_inj.1 (by omega)
def foldS (l : List UInt8) : List UInt8 := l.map foldU
def cmpF : List UInt8 → List UInt8 → Int
  | [], [] => 0
  | [], _ :: _ => -1
  | _ :: _, [] => 1
  | x :: xs, y :: ys => if foldN x.toNat < foldN y.toNat then -1 else if foldN y.toNat < foldN x.toNat then 1 else cmpF xs ys
theorem cmpF_zero : ∀ {a b : List UInt8}, cmpF a b = 0 ↔ foldS a = foldS b
  | [], [] => by simp [cmpF, foldS]
  | [], _ :: _ => by simp [cmpF, foldS]
  | _ :: _, [] => by simp [cmpF, foldS]
  | x :: xs, y :: ys => by
    have ih := cmpF_zero (a := xs) (b := ys)
    unfold foldS at ih
    simp only [cmpF, foldS, List.map_cons, List.cons.injEq]
    have hx := foldU_nat x
    have hy := foldU_nat y
    split
    · constructor
      · intro h; omega
      · rintro ⟨h, _⟩; rw [h] at hx; omega
    · split
      · constructor
        · intro h; omega
        · rintro ⟨h, _⟩; rw [h] at hx; omega
      · rw [ih]
        constructor
        · intro h; exact ⟨u8_inj (by omega), h⟩
        · exact fun h => h.2
end Go.Proofs.YtlefdgplobifiaaGreatDoor
