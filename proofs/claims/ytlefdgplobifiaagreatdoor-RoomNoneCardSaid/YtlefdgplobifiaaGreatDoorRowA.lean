/- An act, read out of a law's argument. -/
import Derived.Test.YtlefdgplobifiaaGreatDoorRowT
set_option linter.unusedVariables false
set_option linter.unusedSimpArgs false
namespace Go.Proofs.YtlefdgplobifiaaGreatDoor
open Go.ChangeShapes Go.WideShapes Go.ChangeAt Go.RowKit
section
variable {H : Type} {enc : TypeId × Value → H} {w : World} {base : Nat} {b0 : Nat}
set_option maxRecDepth 100000 in
theorem open_act {v : Value} {d : DataW H} {ps : List MemPlace} (hv : Value.okWide Tryz.prog w .any b0 33 v) (h : DataW.Trod enc Tryz.prog w base (fun _ => true) true 33 v d ps) :
    ∃ (n id : Int) (op : Bool) (x : ByteArray) (on : Bool) (c : Int) (a : ByteArray), v = .agg #[.int .i64 n, .int .i64 id, .bool op, .string x, .bool on, .int .u8 c, .string a] := by
  obtain ⟨cs, rfl, hsz⟩ := okWide_struct Tryz.underlying33 hv
  have c7 : Tryz.prog.cellsOf 33 = 7 := by kernel_rfl
  rw [c7] at hsz
  obtain ⟨fuel, h⟩ := h
  obtain ⟨xs, m, _, _, hl, hxl, hf⟩ := DataW.trod_struct Tryz.underlying33 h
  have c1 : Tryz.prog.cellsOf 3 = 1 := by kernel_rfl
  have c2 : Tryz.prog.cellsOf 4 = 1 := by kernel_rfl
  have c3 : Tryz.prog.cellsOf 9 = 1 := by kernel_rfl
  have c4 : Tryz.prog.cellsOf 5 = 1 := by kernel_rfl
  have c5 : Tryz.prog.cellsOf 24 = 3 := by kernel_rfl
  have get : ∀ j, j < 5 → ∃ y, xs[j]? = some y := fun j hj => ⟨_, List.getElem?_eq_getElem (by rw [hxl]; exact hj)⟩
  obtain ⟨y0, g0⟩ := get 0 (by decide)
  obtain ⟨y1, g1⟩ := get 1 (by decide)
  obtain ⟨y2, g2⟩ := get 2 (by decide)
  obtain ⟨y3, g3⟩ := get 3 (by decide)
  obtain ⟨y4, g4⟩ := get 4 (by decide)
  have f0 := hf 0 _ rfl
  have f1 := hf 1 _ rfl
  have f2 := hf 2 _ rfl
  have f3 := hf 3 _ rfl
  have f4 := hf 4 _ rfl
  simp only [c1, c2, c3, c5, g0, g1, g2, g3, g4] at f0 f1 f2 f3 f4
  obtain ⟨n, e0, _, _⟩ := DataW.trod_int Tryz.underlying3 f0
  obtain ⟨id, e1, _, _⟩ := DataW.trod_int Tryz.underlying3 f1
  obtain ⟨op, e2, _⟩ := DataW.trod_bool Tryz.underlying4 f2
  obtain ⟨x, e3, _, _⟩ := DataW.trod_string Tryz.underlying9 f3
  obtain ⟨zs, m2, _, _, hl2, hzl, hz⟩ := DataW.trod_struct Tryz.underlying24 f4
  have get2 : ∀ j, j < 3 → ∃ y, zs[j]? = some y := fun j hj => ⟨_, List.getElem?_eq_getElem (by rw [hzl]; exact hj)⟩
  obtain ⟨z0, k0⟩ := get2 0 (by decide)
  obtain ⟨z1, k1⟩ := get2 1 (by decide)
  obtain ⟨z2, k2⟩ := get2 2 (by decide)
  have i0 := hz 0 _ rfl
  have i1 := hz 1 _ rfl
  have i2 := hz 2 _ rfl
  simp only [c2, c3, c4, k0, k1, k2] at i0 i1 i2
  obtain ⟨on, e4, _⟩ := DataW.trod_bool Tryz.underlying4 i0
  obtain ⟨c, e5, _, _⟩ := DataW.trod_int Tryz.underlying5 i1
  obtain ⟨a, e6, _, _⟩ := DataW.trod_string Tryz.underlying9 i2
  refine ⟨n, id, op, x, on, c, a, ?_⟩
  congr 1
  obtain ⟨l⟩ := cs
  simp only [Value.cells] at e0 e1 e2 e3 e4 e5 e6
  have hl7 : l.length = 7 := by simpa using hsz
  match l, hl7 with
  | [a0, a1, a2, a3, a4, a5, a6], _ =>
    have q0 : a0 = .int .i64 n := by simpa [c1, c2, c3, c4, c5] using e0
    have q1 : a1 = .int .i64 id := by simpa [c1, c2, c3, c4, c5] using e1
    have q2 : a2 = .bool op := by simpa [c1, c2, c3, c4, c5] using e2
    have q3 : a3 = .string x := by simpa [c1, c2, c3, c4, c5] using e3
    have q4 : a4 = .bool on := by simpa [c1, c2, c3, c4, c5] using e4
    have q5 : a5 = .int .u8 c := by simpa [c1, c2, c3, c4, c5] using e5
    have q6 : a6 = .string a := by simpa [c1, c2, c3, c4, c5] using e6
    rw [q0, q1, q2, q3, q4, q5, q6]
end
end Go.Proofs.YtlefdgplobifiaaGreatDoor
