/-
  The document's answer of layer 7: points over a denominator; the sum.
-/
import Derived.Test.YtndohjgfjbopnaaRefU
set_option linter.unusedSimpArgs false
set_option linter.unusedVariables false
namespace Go.Cv.Grp
theorem rp_x {n : Nat} [NeZero n] (d x y u v Z W a : Fin n) (h : a * (1 + d * (x * u) * (y * v)) = x * v + u * y) :
    ((Z * W) * ((Z * W) * (Z * W) - d * ((x * Z) * (u * W) * ((y * Z) * (v * W))))) * ((x * Z) * (v * W) + (u * W) * (y * Z)) =
      a * (((Z * W) * (Z * W) - d * ((x * Z) * (u * W) * ((y * Z) * (v * W)))) * ((Z * W) * (Z * W) + d * ((x * Z) * (u * W) * ((y * Z) * (v * W))))) := by
  have e : (x * Z) * (v * W) + (u * W) * (y * Z) = (Z * W) * (x * v + u * y) := by clear h; grind
  rw [e, ← h]
  clear h e
  grind
theorem rp_y {n : Nat} [NeZero n] (d x y u v Z W a : Fin n) (h : a * (1 - d * (x * u) * (y * v)) = y * v + x * u) :
    ((Z * W) * ((Z * W) * (Z * W) + d * ((x * Z) * (u * W) * ((y * Z) * (v * W))))) * ((y * Z) * (v * W) + (x * Z) * (u * W)) =
      a * (((Z * W) * (Z * W) - d * ((x * Z) * (u * W) * ((y * Z) * (v * W)))) * ((Z * W) * (Z * W) + d * ((x * Z) * (u * W) * ((y * Z) * (v * W))))) := by
  have e : (y * Z) * (v * W) + (x * Z) * (u * W) = (Z * W) * (y * v + x * u) := by clear h; grind
  rw [e, ← h]
  clear h e
  grind
theorem rp_f {n : Nat} [NeZero n] (d x y u v Z W : Fin n) : (Z * W) * (Z * W) - d * ((x * Z) * (u * W) * ((y * Z) * (v * W))) = (Z * W) * (Z * W) * (1 - d * (x * u) * (y * v)) := by grind
theorem rp_g {n : Nat} [NeZero n] (d x y u v Z W : Fin n) : (Z * W) * (Z * W) + d * ((x * Z) * (u * W) * ((y * Z) * (v * W))) = (Z * W) * (Z * W) * (1 + d * (x * u) * (y * v)) := by grind
end Go.Cv.Grp
namespace Go.Cv
open Go.RowKit Go.Cv.Pr Go.Cv.Grp
/-- Three numbers that stand for a point: X / Z and Y / Z. -/
structure R3 (X Y Z : F7) (P : P7) : Prop where
  x : X = P.x * Z
  y : Y = P.y * Z
  z : Z ≠ 0
theorem R3.add {X Y Z U V W : F7} {P Q : P7} (h : R3 X Y Z P) (k : R3 U V W Q) :
    R3 (((Z * W) * ((Z * W) * (Z * W) - C7.d * (X * U * (Y * V)))) * (X * V + U * Y)) (((Z * W) * ((Z * W) * (Z * W) + C7.d * (X * U * (Y * V)))) * (Y * V + X * U))
      (((Z * W) * (Z * W) - C7.d * (X * U * (Y * V))) * ((Z * W) * (Z * W) + C7.d * (X * U * (Y * V)))) (P.add Q) := by
  obtain ⟨rfl, rfl, hz⟩ := h
  obtain ⟨rfl, rfl, hw⟩ := k
  have h1 := C7.ax_is P.on Q.on
  have h2 := C7.ay_is P.on Q.on
  have n1 := C7.den1 P.on Q.on
  have n2 := C7.den2 P.on Q.on
  refine ⟨rp_x _ _ _ _ _ _ _ _ h1, rp_y _ _ _ _ _ _ _ _ h2, ?_⟩
  rw [rp_f, rp_g]
  have hzw := C7.mul_ne hz hw
  exact C7.mul_ne (C7.mul_ne (C7.mul_ne hzw hzw) n2) (C7.mul_ne (C7.mul_ne hzw hzw) n1)
theorem R3.of (P : P7) : R3 P.x P.y 1 P := ⟨by grind, by grind, C7.one⟩
theorem R3.zero : R3 0 1 1 (Pt.zero C7) := R3.of (Pt.zero C7)
theorem out_ring {n : Nat} [NeZero n] (x Z i : Fin n) (h : Z * i = 1) : x * Z * i = x := by grind
theorem R3.out {X Y Z : F7} {P : P7} (h : R3 X Y Z P) : X * fiv Z = P.x ∧ Y * fiv Z = P.y := by
  have h1 := mul_fiv Z h.z
  rw [h.x, h.y]
  exact ⟨out_ring _ _ _ h1, out_ring _ _ _ h1⟩
end Go.Cv
namespace Go.Proofs.Ytndohjgfjbopnaa
open Go.RowKit Go.Cv Go.Cv.Pr Go.Cv.Grp Go.Cv.Dig
/-- A point of the answer. -/
def NP (w : World) (v : Value) (P : P7) : Prop := ∃ a b c X Y Z, v = .agg #[a, b, c] ∧ NF w a X ∧ NF w b Y ∧ NF w c Z ∧ R3 X Y Z P
theorem NP.ext {w w' : World} {v : Value} {P : P7} (h : NP w v P) (hx : Ext w w') : NP w' v P := by
  obtain ⟨a, b, c, X, Y, Z, rfl, h1, h2, h3, h4⟩ := h
  exact ⟨a, b, c, X, Y, Z, rfl, h1.ext hx, h2.ext hx, h3.ext hx, h4⟩
/-- Three cells of a block. -/
def C3 (w : World) (n : Nat) (a b c : Value) : Prop := w.cell? ⟨n, 0, none⟩ = some a ∧ w.cell? ⟨n, 1, none⟩ = some b ∧ w.cell? ⟨n, 2, none⟩ = some c
theorem C3.ext {w w' : World} {n : Nat} {a b c : Value} (h : C3 w n a b c) (hx : Ext w w') : C3 w' n a b c := ⟨hx.cell h.1, hx.cell h.2.1, hx.cell h.2.2⟩
theorem C3.new (w : World) (a b c : Value) (t : TypeId) : C3 (w.alloc (.cells #[a, b, c] t)) w.heap.size a b c := by
  have h := Row.alloc w [a, b, c] t
  exact ⟨h.cell (i := 0) (by simp), h.cell (i := 1) (by simp), h.cell (i := 2) (by simp)⟩
end Go.Proofs.Ytndohjgfjbopnaa
