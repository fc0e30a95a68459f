/-
  Texts of the lemmas below the claim, put together: GP CA.
-/
import Derived.Test.YtgeihelkkhjjaaaGreatDoorKDP
import Derived.Test.YtgeihelkkhjjaaaGreatDoorKFx
import Derived.Test.YtgeihelkkhjjaaaGreatDoorKEC
set_option linter.unusedSimpArgs false
set_option linter.unusedVariables false
section
section
namespace Go.Cv.Grp
structure Crv (n : Nat) [NeZero n] where
 d : Fin n
 i : Fin n
 iv : Fin n→Fin n
 one : (1 : Fin n) ≠ 0
 two : (1 + 1 : Fin n) ≠ 0
 ii : i * i + 1 = 0
 mul_iv : ∀ x,x ≠ 0→x * iv x = 1
 nsq : ∀ s t : Fin n,t ≠ 0→s * s = d * (t * t)→False
theorem Crv.mul_ne {n : Nat} [NeZero n] (C : Crv n) {x y : Fin n} (hx : x ≠ 0) (hy : y ≠ 0) : x * y ≠ 0:=fun h=>by
 have h1:=C.mul_iv x hx
 have h2:=C.mul_iv y hy
 apply C.one
 grind
theorem Crv.cancel {n : Nat} [NeZero n] (C : Crv n) {x y z : Fin n} (hx : x ≠ 0) (h : x * y = x * z) : y = z:=by
 have h1:=C.mul_iv x hx
 grind
theorem Crv.zero_or {n : Nat} [NeZero n] (C : Crv n) {x y : Fin n} (h : x * y = 0) : x = 0 ∨ y = 0:=by
 rcases Classical.em (x = 0) with h1 | h1
 ·exact .inl h1
 ·exact .inr (C.cancel h1 (by grind))
def Crv.on {n : Nat} [NeZero n] (C : Crv n) (x y : Fin n) : Prop:=y * y - x * x = 1 + C.d * (x * x) * (y * y)
def Crv.e {n : Nat} [NeZero n] (C : Crv n) (x y u v : Fin n) : Fin n:=C.d * (x * u) * (y * v)
theorem Crv.den {n : Nat} [NeZero n] (C : Crv n) {x y u v : Fin n} (h1 : C.on x y) (h2 : C.on u v) : C.e x y u v * C.e x y u v ≠ 1:=fun he=>by
 unfold Crv.on Crv.e at *
 have hi:=C.ii
 have hx : x ≠ 0:=fun h=>by subst h;apply C.one;grind
 have hy : y ≠ 0:=fun h=>by subst h;apply C.one;grind
 have hu : u ≠ 0:=fun h=>by subst h;apply C.one;grind
 have hxy:=C.mul_ne hx hy
 have k1 : (C.i * x + (C.d * (x * u) * (y * v)) * y) * (C.i * x + (C.d * (x * u) * (y * v)) * y) = C.d * ((x * y * (C.i * u + v)) * (x * y * (C.i * u + v))):=by grind
 have k2 : (C.i * x - (C.d * (x * u) * (y * v)) * y) * (C.i * x - (C.d * (x * u) * (y * v)) * y) = C.d * ((x * y * (C.i * u - v)) * (x * y * (C.i * u - v))):=by grind
 rcases Classical.em (C.i * u + v = 0) with h5 | h5
 ·rcases Classical.em (C.i * u - v = 0) with h6 | h6
  ·apply hu
   have h7 : (1 + 1) * u = (1 + 1) * 0:=by grind
   exact C.cancel C.two h7
  ·exact C.nsq _ _ (C.mul_ne hxy h6) k2
 ·exact C.nsq _ _ (C.mul_ne hxy h5) k1
theorem Crv.den1 {n : Nat} [NeZero n] (C : Crv n) {x y u v : Fin n} (h1 : C.on x y) (h2 : C.on u v) : 1 + C.e x y u v ≠ 0:=fun h=>C.den h1 h2 (by grind)
theorem Crv.den2 {n : Nat} [NeZero n] (C : Crv n) {x y u v : Fin n} (h1 : C.on x y) (h2 : C.on u v) : 1 - C.e x y u v ≠ 0:=fun h=>C.den h1 h2 (by grind)
def Crv.ax {n : Nat} [NeZero n] (C : Crv n) (x y u v : Fin n) : Fin n:=(x * v + u * y) * C.iv (1 + C.e x y u v)
def Crv.ay {n : Nat} [NeZero n] (C : Crv n) (x y u v : Fin n) : Fin n:=(y * v + x * u) * C.iv (1 - C.e x y u v)
theorem Crv.ax_is {n : Nat} [NeZero n] (C : Crv n) {x y u v : Fin n} (h1 : C.on x y) (h2 : C.on u v) : C.ax x y u v * (1 + C.e x y u v) = x * v + u * y:=by
 have:=C.mul_iv _ (C.den1 h1 h2)
 unfold Crv.ax
 grind
theorem Crv.ay_is {n : Nat} [NeZero n] (C : Crv n) {x y u v : Fin n} (h1 : C.on x y) (h2 : C.on u v) : C.ay x y u v * (1 - C.e x y u v) = y * v + x * u:=by
 have:=C.mul_iv _ (C.den2 h1 h2)
 unfold Crv.ay
 grind
theorem on_poly {n : Nat} [NeZero n] (d x y u v a b : Fin n) (h1 : y * y - x * x = 1 + d * (x * x) * (y * y)) (h2 : v * v - u * u = 1 + d * (u * u) * (v * v))
  (ha : a * (1 + d * (x * u) * (y * v)) = x * v + u * y) (hb : b * (1 - d * (x * u) * (y * v)) = y * v + x * u) :
  ((1 + d * (x * u) * (y * v)) * (1 + d * (x * u) * (y * v)) * ((1 - d * (x * u) * (y * v)) * (1 - d * (x * u) * (y * v)))) * (b * b - a * a) = ((1 + d * (x * u) * (y * v)) * (1 + d * (x * u) * (y * v)) * ((1 - d * (x * u) * (y * v)) * (1 - d * (x * u) * (y * v)))) * (1 + d * (a * a) * (b * b)):=by
 have e1 : ((1 + d * (x * u) * (y * v)) * (1 + d * (x * u) * (y * v)) * ((1 - d * (x * u) * (y * v)) * (1 - d * (x * u) * (y * v)))) * (b * b - a * a) = (y * v + x * u) * (y * v + x * u) * ((1 + d * (x * u) * (y * v)) * (1 + d * (x * u) * (y * v))) - (x * v + u * y) * (x * v + u * y) * ((1 - d * (x * u) * (y * v)) * (1 - d * (x * u) * (y * v))):=by
  rw [← ha,← hb];clear h1 h2 ha hb;grind
 have e2 : ((1 + d * (x * u) * (y * v)) * (1 + d * (x * u) * (y * v)) * ((1 - d * (x * u) * (y * v)) * (1 - d * (x * u) * (y * v)))) * (1 + d * (a * a) * (b * b)) = (1 + d * (x * u) * (y * v)) * (1 + d * (x * u) * (y * v)) * ((1 - d * (x * u) * (y * v)) * (1 - d * (x * u) * (y * v))) + d * ((x * v + u * y) * (x * v + u * y)) * ((y * v + x * u) * (y * v + x * u)):=by
  rw [← ha,← hb];clear h1 h2 ha hb;grind
 rw [e1,e2]
 clear e1 e2 ha hb
 grind
theorem Crv.on_add {n : Nat} [NeZero n] (C : Crv n) {x y u v : Fin n} (h1 : C.on x y) (h2 : C.on u v) : C.on (C.ax x y u v) (C.ay x y u v):=by
 have k1:=C.den1 h1 h2
 have k2:=C.den2 h1 h2
 exact C.cancel (C.mul_ne (C.mul_ne k1 k1) (C.mul_ne k2 k2)) (on_poly C.d x y u v _ _ h1 h2 (C.ax_is h1 h2) (C.ay_is h1 h2))
structure Pt {n : Nat} [NeZero n] (C : Crv n) where
 x : Fin n
 y : Fin n
 on : C.on x y
theorem Pt.ext_ {n : Nat} [NeZero n] {C : Crv n} {P Q : Pt C} (hx : P.x = Q.x) (hy : P.y = Q.y) : P = Q:=by
 cases P;cases Q
 simp only at hx hy
 subst hx hy
 rfl
def Pt.add {n : Nat} [NeZero n] {C : Crv n} (P Q : Pt C) : Pt C:=⟨C.ax P.x P.y Q.x Q.y,C.ay P.x P.y Q.x Q.y,C.on_add P.on Q.on⟩
def Pt.zero {n : Nat} [NeZero n] (C : Crv n) : Pt C:=⟨0,1,by unfold Crv.on;grind⟩
theorem Pt.add_comm {n : Nat} [NeZero n] {C : Crv n} (P Q : Pt C) : P.add Q = Q.add P:=by
 have he : C.e P.x P.y Q.x Q.y = C.e Q.x Q.y P.x P.y:=by unfold Crv.e;grind
 apply Pt.ext_
 ·show C.ax _ _ _ _ = C.ax _ _ _ _
  unfold Crv.ax
  rw [he];congr 1;grind
 ·show C.ay _ _ _ _ = C.ay _ _ _ _
  unfold Crv.ay
  rw [he];congr 1;grind
theorem Pt.add_zero {n : Nat} [NeZero n] {C : Crv n} (P : Pt C) : P.add (Pt.zero C) = P:=by
 have h1:=C.ax_is P.on (Pt.zero C).on
 have h2:=C.ay_is P.on (Pt.zero C).on
 apply Pt.ext_
 ·show C.ax P.x P.y (0 : Fin n) 1 = P.x
  change C.ax P.x P.y (0 : Fin n) 1 * (1 + C.e P.x P.y 0 1) = P.x * 1 + 0 * P.y at h1
  unfold Crv.e at h1
  grind
 ·show C.ay P.x P.y (0 : Fin n) 1 = P.y
  change C.ay P.x P.y (0 : Fin n) 1 * (1 - C.e P.x P.y 0 1) = P.y * 1 + P.x * 0 at h2
  unfold Crv.e at h2
  grind
theorem assoc_x {n : Nat} [NeZero n] (d x1 y1 x2 y2 x3 y3 : Fin n)
  (h1 : y1 * y1 - x1 * x1 = 1 + d * (x1 * x1) * (y1 * y1)) (h2 : y2 * y2 - x2 * x2 = 1 + d * (x2 * x2) * (y2 * y2)) (h3 : y3 * y3 - x3 * x3 = 1 + d * (x3 * x3) * (y3 * y3)) :
  ((x1*y2+x2*y1)*(1 - d*(x1*x2)*(y1*y2))*y3 + x3*((y1*y2+x1*x2)*(1 + d*(x1*x2)*(y1*y2)))) * ((1 + d*(x2*x3)*(y2*y3))*(1 - d*(x2*x3)*(y2*y3)) + d*x1*y1*(x2*y3+x3*y2)*(y2*y3+x2*x3))
  = (x1*((y2*y3+x2*x3)*(1 + d*(x2*x3)*(y2*y3))) + (x2*y3+x3*y2)*(1 - d*(x2*x3)*(y2*y3))*y1) * ((1 + d*(x1*x2)*(y1*y2))*(1 - d*(x1*x2)*(y1*y2)) + d*(x1*y2+x2*y1)*(y1*y2+x1*x2)*x3*y3):=by
 grind
theorem assoc_y {n : Nat} [NeZero n] (d x1 y1 x2 y2 x3 y3 : Fin n)
  (h1 : y1 * y1 - x1 * x1 = 1 + d * (x1 * x1) * (y1 * y1)) (h2 : y2 * y2 - x2 * x2 = 1 + d * (x2 * x2) * (y2 * y2)) (h3 : y3 * y3 - x3 * x3 = 1 + d * (x3 * x3) * (y3 * y3)) :
  ((y1*y2+x1*x2)*(1 + d*(x1*x2)*(y1*y2))*y3 + ((x1*y2+x2*y1)*(1 - d*(x1*x2)*(y1*y2)))*x3) * ((1 + d*(x2*x3)*(y2*y3))*(1 - d*(x2*x3)*(y2*y3)) - d*x1*y1*(x2*y3+x3*y2)*(y2*y3+x2*x3))
  = (y1*((y2*y3+x2*x3)*(1 + d*(x2*x3)*(y2*y3))) + x1*((x2*y3+x3*y2)*(1 - d*(x2*x3)*(y2*y3)))) * ((1 + d*(x1*x2)*(y1*y2))*(1 - d*(x1*x2)*(y1*y2)) - d*(x1*y2+x2*y1)*(y1*y2+x1*x2)*x3*y3):=by
 grind
theorem Pt.add_assoc {n : Nat} [NeZero n] {C : Crv n} (P Q R : Pt C) : (P.add Q).add R = P.add (Q.add R):=by
 have a1:=C.ax_is P.on Q.on
 have a2:=C.ay_is P.on Q.on
 have b1:=C.ax_is Q.on R.on
 have b2:=C.ay_is Q.on R.on
 have c1:=C.ax_is (P.add Q).on R.on
 have c2:=C.ay_is (P.add Q).on R.on
 have e1:=C.ax_is P.on (Q.add R).on
 have e2:=C.ay_is P.on (Q.add R).on
 have p1:=C.den1 P.on Q.on
 have p2:=C.den2 P.on Q.on
 have q1:=C.den1 Q.on R.on
 have q2:=C.den2 Q.on R.on
 have r1:=C.den1 (P.add Q).on R.on
 have r2:=C.den2 (P.add Q).on R.on
 have s1:=C.den1 P.on (Q.add R).on
 have s2:=C.den2 P.on (Q.add R).on
 have hx:=assoc_x C.d P.x P.y Q.x Q.y R.x R.y P.on Q.on R.on
 have hy:=assoc_y C.d P.x P.y Q.x Q.y R.x R.y P.on Q.on R.on
 change C.ax (C.ax P.x P.y Q.x Q.y) (C.ay P.x P.y Q.x Q.y) R.x R.y * (1 + C.e (C.ax P.x P.y Q.x Q.y) (C.ay P.x P.y Q.x Q.y) R.x R.y) = C.ax P.x P.y Q.x Q.y * R.y + R.x * C.ay P.x P.y Q.x Q.y at c1
 change C.ay (C.ax P.x P.y Q.x Q.y) (C.ay P.x P.y Q.x Q.y) R.x R.y * (1 - C.e (C.ax P.x P.y Q.x Q.y) (C.ay P.x P.y Q.x Q.y) R.x R.y) = C.ay P.x P.y Q.x Q.y * R.y + C.ax P.x P.y Q.x Q.y * R.x at c2
 change C.ax P.x P.y (C.ax Q.x Q.y R.x R.y) (C.ay Q.x Q.y R.x R.y) * (1 + C.e P.x P.y (C.ax Q.x Q.y R.x R.y) (C.ay Q.x Q.y R.x R.y)) = P.x * C.ay Q.x Q.y R.x R.y + C.ax Q.x Q.y R.x R.y * P.y at e1
 change C.ay P.x P.y (C.ax Q.x Q.y R.x R.y) (C.ay Q.x Q.y R.x R.y) * (1 - C.e P.x P.y (C.ax Q.x Q.y R.x R.y) (C.ay Q.x Q.y R.x R.y)) = P.y * C.ay Q.x Q.y R.x R.y + P.x * C.ax Q.x Q.y R.x R.y at e2
 change 1 + C.e (C.ax P.x P.y Q.x Q.y) (C.ay P.x P.y Q.x Q.y) R.x R.y ≠ 0 at r1
 change 1 - C.e (C.ax P.x P.y Q.x Q.y) (C.ay P.x P.y Q.x Q.y) R.x R.y ≠ 0 at r2
 change 1 + C.e P.x P.y (C.ax Q.x Q.y R.x R.y) (C.ay Q.x Q.y R.x R.y) ≠ 0 at s1
 change 1 - C.e P.x P.y (C.ax Q.x Q.y R.x R.y) (C.ay Q.x Q.y R.x R.y) ≠ 0 at s2
 apply Pt.ext_
 ·show C.ax (C.ax P.x P.y Q.x Q.y) (C.ay P.x P.y Q.x Q.y) R.x R.y = C.ax P.x P.y (C.ax Q.x Q.y R.x R.y) (C.ay Q.x Q.y R.x R.y)
  have hne:=C.mul_ne (C.mul_ne (C.mul_ne p1 p2) r1) (C.mul_ne (C.mul_ne q1 q2) s1)
  refine C.cancel hne ?_
  unfold Crv.e at *
  generalize C.ax (C.ax P.x P.y Q.x Q.y) (C.ay P.x P.y Q.x Q.y) R.x R.y = X at *
  generalize C.ax P.x P.y (C.ax Q.x Q.y R.x R.y) (C.ay Q.x Q.y R.x R.y) = X' at *
  generalize C.ax P.x P.y Q.x Q.y = u at *
  generalize C.ay P.x P.y Q.x Q.y = v at *
  generalize C.ax Q.x Q.y R.x R.y = u' at *
  generalize C.ay Q.x Q.y R.x R.y = v' at *
  rw [← a1,← a2,← b1,← b2] at hx
  clear a1 a2 b1 b2 c2 e2 hne p1 p2 q1 q2 r1 r2 s1 s2 hy
  have f1 : ∀ A B D E F : Fin n,(A * B * D) * (E * F * F) = (A * B * D) * (E * F * F):=fun _ _ _ _ _=>rfl
  clear f1
  have g1 : (1 + C.d * (P.x * Q.x) * (P.y * Q.y)) * (1 - C.d * (P.x * Q.x) * (P.y * Q.y)) * (X * (1 + C.d * (u * R.x) * (v * R.y))) = (1 + C.d * (P.x * Q.x) * (P.y * Q.y)) * (1 - C.d * (P.x * Q.x) * (P.y * Q.y)) * (u * R.y + R.x * v):=by rw [c1]
  have g2 : (1 + C.d * (Q.x * R.x) * (Q.y * R.y)) * (1 - C.d * (Q.x * R.x) * (Q.y * R.y)) * (X' * (1 + C.d * (P.x * u') * (P.y * v'))) = (1 + C.d * (Q.x * R.x) * (Q.y * R.y)) * (1 - C.d * (Q.x * R.x) * (Q.y * R.y)) * (P.x * v' + u' * P.y):=by rw [e1]
  clear c1 e1
  generalize 1 + C.d * (P.x * Q.x) * (P.y * Q.y) = A at *
  generalize 1 - C.d * (P.x * Q.x) * (P.y * Q.y) = B at *
  generalize 1 + C.d * (Q.x * R.x) * (Q.y * R.y) = A' at *
  generalize 1 - C.d * (Q.x * R.x) * (Q.y * R.y) = B' at *
  grind
 ·show C.ay (C.ax P.x P.y Q.x Q.y) (C.ay P.x P.y Q.x Q.y) R.x R.y = C.ay P.x P.y (C.ax Q.x Q.y R.x R.y) (C.ay Q.x Q.y R.x R.y)
  have hne:=C.mul_ne (C.mul_ne (C.mul_ne p1 p2) r2) (C.mul_ne (C.mul_ne q1 q2) s2)
  refine C.cancel hne ?_
  unfold Crv.e at *
  generalize C.ay (C.ax P.x P.y Q.x Q.y) (C.ay P.x P.y Q.x Q.y) R.x R.y = X at *
  generalize C.ay P.x P.y (C.ax Q.x Q.y R.x R.y) (C.ay Q.x Q.y R.x R.y) = X' at *
  generalize C.ax P.x P.y Q.x Q.y = u at *
  generalize C.ay P.x P.y Q.x Q.y = v at *
  generalize C.ax Q.x Q.y R.x R.y = u' at *
  generalize C.ay Q.x Q.y R.x R.y = v' at *
  rw [← a1,← a2,← b1,← b2] at hy
  clear a1 a2 b1 b2 c1 e1 hne p1 p2 q1 q2 r1 r2 s1 s2 hx
  have g1 : (1 + C.d * (P.x * Q.x) * (P.y * Q.y)) * (1 - C.d * (P.x * Q.x) * (P.y * Q.y)) * (X * (1 - C.d * (u * R.x) * (v * R.y))) = (1 + C.d * (P.x * Q.x) * (P.y * Q.y)) * (1 - C.d * (P.x * Q.x) * (P.y * Q.y)) * (v * R.y + u * R.x):=by rw [c2]
  have g2 : (1 + C.d * (Q.x * R.x) * (Q.y * R.y)) * (1 - C.d * (Q.x * R.x) * (Q.y * R.y)) * (X' * (1 - C.d * (P.x * u') * (P.y * v'))) = (1 + C.d * (Q.x * R.x) * (Q.y * R.y)) * (1 - C.d * (Q.x * R.x) * (Q.y * R.y)) * (P.y * v' + P.x * u'):=by rw [e2]
  clear c2 e2
  generalize 1 + C.d * (P.x * Q.x) * (P.y * Q.y) = A at *
  generalize 1 - C.d * (P.x * Q.x) * (P.y * Q.y) = B at *
  generalize 1 + C.d * (Q.x * R.x) * (Q.y * R.y) = A' at *
  generalize 1 - C.d * (Q.x * R.x) * (Q.y * R.y) = B' at *
  grind
def Pt.mul {n : Nat} [NeZero n] {C : Crv n} : Nat→Pt C→Pt C
 | 0,_=>Pt.zero C
 | k + 1,P=>(Pt.mul k P).add P
theorem Pt.zero_add {n : Nat} [NeZero n] {C : Crv n} (P : Pt C) : (Pt.zero C).add P = P:=by rw [Pt.add_comm,Pt.add_zero]
theorem Pt.mul_succ {n : Nat} [NeZero n] {C : Crv n} (k : Nat) (P : Pt C) : Pt.mul (k + 1) P = (Pt.mul k P).add P:=rfl
theorem Pt.mul_one {n : Nat} [NeZero n] {C : Crv n} (P : Pt C) : Pt.mul 1 P = P:=Pt.zero_add P
theorem Pt.mul_add {n : Nat} [NeZero n] {C : Crv n} (a : Nat) (P : Pt C) : ∀ b,Pt.mul (a + b) P = (Pt.mul a P).add (Pt.mul b P)
 | 0=>(Pt.add_zero _).symm
 | b + 1=>by rw [← Nat.add_assoc,Pt.mul_succ,Pt.mul_add a P b,Pt.add_assoc,Pt.mul_succ]
theorem Pt.mul_mul {n : Nat} [NeZero n] {C : Crv n} (a : Nat) (P : Pt C) : ∀ b,Pt.mul (a * b) P = Pt.mul b (Pt.mul a P)
 | 0=>rfl
 | b + 1=>by rw [Nat.mul_succ,Pt.mul_add,Pt.mul_mul a P b,Pt.mul_succ]
theorem Pt.mul_zero {n : Nat} [NeZero n] {C : Crv n} : ∀ k,Pt.mul k (Pt.zero C) = Pt.zero C
 | 0=>rfl
 | k + 1=>by rw [Pt.mul_succ,Pt.mul_zero k,Pt.add_zero]
theorem Pt.mul_sum {n : Nat} [NeZero n] {C : Crv n} (P Q : Pt C) : ∀ k,Pt.mul k (P.add Q) = (Pt.mul k P).add (Pt.mul k Q)
 | 0=>(Pt.add_zero _).symm
 | k + 1=>by
  rw [Pt.mul_succ,Pt.mul_sum P Q k,Pt.mul_succ,Pt.mul_succ,Pt.add_assoc,Pt.add_assoc,← Pt.add_assoc (Pt.mul k Q) P Q,Pt.add_comm (Pt.mul k Q) P,Pt.add_assoc P]
theorem Pt.mul_mod {n : Nat} [NeZero n] {C : Crv n} {P : Pt C} {L : Nat} (h : Pt.mul L P = Pt.zero C) (k : Nat) : Pt.mul (k % L) P = Pt.mul k P:=by
 have:=Nat.mod_add_div k L
 conv=>rhs;rw [← this]
 rw [Pt.mul_add,Pt.mul_mul,h,Pt.mul_zero,Pt.add_zero]
structure Rep {n : Nat} [NeZero n] {C : Crv n} (X Y Z T : Fin n) (P : Pt C) : Prop where
 z : Z ≠ 0
 x : X = P.x * Z
 y : Y = P.y * Z
 t : T = P.x * P.y * Z
theorem pl_f {n : Nat} [NeZero n] (d x y u v Z W : Fin n) : (Z * W + Z * W) - (x * y * Z) * (u * v * W) * (d + d) = (1 + 1) * (Z * W) * (1 - d * (x * u) * (y * v)):=by grind
theorem pl_g {n : Nat} [NeZero n] (d x y u v Z W : Fin n) : (Z * W + Z * W) + (x * y * Z) * (u * v * W) * (d + d) = (1 + 1) * (Z * W) * (1 + d * (x * u) * (y * v)):=by grind
theorem pl_e {n : Nat} [NeZero n] (x y u v Z W : Fin n) : (y * Z + x * Z) * (v * W + u * W) - (y * Z - x * Z) * (v * W - u * W) = (1 + 1) * (Z * W) * (x * v + u * y):=by grind
theorem pl_h {n : Nat} [NeZero n] (x y u v Z W : Fin n) : (y * Z + x * Z) * (v * W + u * W) + (y * Z - x * Z) * (v * W - u * W) = (1 + 1) * (Z * W) * (y * v + x * u):=by grind
theorem pl_q {n : Nat} [NeZero n] (k a D A : Fin n) (h : a * D = A) : k * A = a * (k * D):=by subst h;grind
theorem Rep.mk4 {n : Nat} [NeZero n] {C : Crv n} {e f g h : Fin n} {P : Pt C} (f2 : f ≠ 0) (g2 : g ≠ 0) (e1 : e = P.x * g) (h1 : h = P.y * f) : Rep (e * f) (g * h) (f * g) (e * h) P:=by
 subst e1 h1
 refine ⟨C.mul_ne f2 g2,?_,?_,?_⟩ <;> clear f2 g2 <;> grind
theorem Rep.plus {n : Nat} [NeZero n] {C : Crv n} {X1 Y1 Z1 T1 X2 Y2 Z2 T2 a b c z e f g h : Fin n} {P Q : Pt C} (hP : Rep X1 Y1 Z1 T1 P) (hQ : Rep X2 Y2 Z2 T2 Q)
  (ha : a = (Y1 - X1) * (Y2 - X2)) (hb : b = (Y1 + X1) * (Y2 + X2)) (hc : c = T1 * T2 * (C.d + C.d)) (hz : z = Z1 * Z2 + Z1 * Z2)
  (he : e = b - a) (hf : f = z - c) (hg : g = z + c) (hh : h = b + a) : Rep (e * f) (g * h) (f * g) (e * h) (P.add Q):=by
 obtain ⟨p1,rfl,rfl,rfl⟩:=hP
 obtain ⟨q1,rfl,rfl,rfl⟩:=hQ
 have k1:=C.ax_is P.on Q.on
 have k2:=C.ay_is P.on Q.on
 have d1:=C.den1 P.on Q.on
 have d2:=C.den2 P.on Q.on
 change (P.add Q).x * (1 + _) = _ at k1
 change (P.add Q).y * (1 - _) = _ at k2
 have n1:=C.mul_ne C.two (C.mul_ne p1 q1)
 subst ha hb hc hz he hf hg hh
 rw [pl_f,pl_g,pl_e,pl_h]
 exact Rep.mk4 (C.mul_ne n1 d2) (C.mul_ne n1 d1) (pl_q _ _ _ _ k1) (pl_q _ _ _ _ k2)
theorem db_e {n : Nat} [NeZero n] (x y Z : Fin n) : (x * Z + y * Z) * (x * Z + y * Z) - x * Z * (x * Z) - y * Z * (y * Z) = Z * Z * (x * y + x * y):=by grind
theorem db_g {n : Nat} [NeZero n] (d x y Z : Fin n) (h : y * y - x * x = 1 + d * (x * x) * (y * y)) : y * Z * (y * Z) - x * Z * (x * Z) = Z * Z * (1 + d * (x * x) * (y * y)):=by rw [← h];clear h;grind
theorem db_f {n : Nat} [NeZero n] (d x y Z : Fin n) (h : y * y - x * x = 1 + d * (x * x) * (y * y)) : Z * Z * (1 + d * (x * x) * (y * y)) - (Z * Z + Z * Z) = 0 - Z * Z * (1 - d * (x * x) * (y * y)):=by clear h;grind
theorem db_h {n : Nat} [NeZero n] (x y Z : Fin n) : 0 - x * Z * (x * Z) - y * Z * (y * Z) = 0 - Z * Z * (y * y + x * x):=by grind
theorem pl_r {n : Nat} [NeZero n] (k a D A : Fin n) (h : a * D = A) : 0 - k * A = a * (0 - k * D):=by subst h;grind
theorem neg_ne {n : Nat} [NeZero n] {x : Fin n} (h : x ≠ 0) : 0 - x ≠ 0:=fun h0=>h (by grind)
theorem Rep.double {n : Nat} [NeZero n] {C : Crv n} {X Y Z T a b c s e f g h : Fin n} {P : Pt C} (hP : Rep X Y Z T P) (ha : a = X * X) (hb : b = Y * Y) (hc : c = Z * Z) (hs : s = X + Y)
  (he : e = s * s - a - b) (hg : g = b - a) (hf : f = g - (c + c)) (hh : h = 0 - a - b) : Rep (e * f) (g * h) (f * g) (e * h) (P.add P):=by
 obtain ⟨p1,rfl,rfl,rfl⟩:=hP
 have k1:=C.ax_is P.on P.on
 have k2:=C.ay_is P.on P.on
 have d1:=C.den1 P.on P.on
 have d2:=C.den2 P.on P.on
 have o1:=P.on
 change (P.add P).x * (1 + _) = _ at k1
 change (P.add P).y * (1 - _) = _ at k2
 have n1:=C.mul_ne p1 p1
 subst ha hb hc hs he hg hf hh
 rw [db_e,db_g C.d _ _ _ o1,db_f C.d _ _ _ o1,db_h]
 exact Rep.mk4 (neg_ne (C.mul_ne n1 d2)) (C.mul_ne n1 d1) (pl_q _ _ _ _ k1) (pl_r _ _ _ _ k2)
theorem Rep.zero {n : Nat} [NeZero n] (C : Crv n) : Rep 0 1 1 0 (Pt.zero C):=⟨C.one,by show (0 : Fin n) = 0 * 1;grind,by show (1 : Fin n) = 1 * 1;grind,by show (0 : Fin n) = 0 * 1 * 1;grind⟩
theorem Rep.of {n : Nat} [NeZero n] {C : Crv n} (P : Pt C) : Rep P.x P.y 1 (P.x * P.y) P:=⟨C.one,by grind,by grind,by grind⟩
theorem Rep.out {n : Nat} [NeZero n] {C : Crv n} {X Y Z T : Fin n} {P : Pt C} (h : Rep X Y Z T P) : X * C.iv Z = P.x∧Y * C.iv Z = P.y:=by
 have h1:=C.mul_iv Z h.z
 have h2:=h.x
 have h3:=h.y
 constructor
 ·grind
 ·grind
end Go.Cv.Grp
end
section
namespace Go.Cv
open Go.RowKit Go.Cv.Pr Go.Cv.Grp
instance : NeZero Pr.pp:=⟨by unfold Pr.pp;decide⟩
def tf (a : Nat) : Fin Pr.pp:=⟨a % Pr.pp,Nat.mod_lt _ (by unfold Pr.pp;decide)⟩
theorem qhf {a b : Nat} : tf a = tf b ↔ Eqp a b:=by
 unfold tf
 rw [Fin.mk.injEq]
 exact Iff.rfl
theorem Eqp.tf {a b : Nat} (h : Eqp a b) : tf a = tf b:=qhf.2 h
theorem qea (x : Fin Pr.pp) : tf x.val = x:=Fin.ext (Nat.mod_eq_of_lt x.isLt)
theorem qdo (a b : Nat) : tf (a + b) = tf a + tf b:=by
 apply Fin.ext
 rw [Fin.val_add]
 exact Nat.add_mod ..
theorem qda (a b : Nat) : tf (a * b) = tf a * tf b:=by
 apply Fin.ext
 rw [Fin.val_mul]
 exact Nat.mul_mod ..
theorem qcw : tf 0 = 0:=Fin.ext rfl
theorem qgj : tf 1 = 1:=Fin.ext rfl
theorem qlm (a : Nat) : tf (negp a) = - tf a:=by
 have h:=(qes a).tf
 rw [qdo,qcw] at h
 grind
theorem qpa {a : Nat} : tf a ≠ 0 ↔ ¬ Pr.pp ∣ a:=by
 rw [qd6,← qhf,qcw]
def fiv (x : Fin Pr.pp) : Fin Pr.pp:=tf (pI x.val)
theorem qe6 (x : Fin Pr.pp) (h : x ≠ 0) : x * fiv x = 1:=by
 have h1 : tf x.val ≠ 0:=by rw [qea];exact h
 have h2:=(pI_mul x.val (qpa.1 h1)).tf
 rw [qda,qea,qgj] at h2
 exact h2
theorem pI_congr {a b : Nat} (h : Eqp a b) : Eqp (pI a) (pI b):=by
 unfold pI
 obtain ⟨K,hK⟩ : ∃ K,K = 2 ^ 255 - 21:=⟨_,rfl⟩
 rw [← hK]
 exact h.pow K
theorem tf_pI (a : Nat) : tf (pI a) = fiv (tf a):=by
 unfold fiv
 refine (pI_congr ?_).tf
 rw [← qhf,qea]
def dN : Nat:=37095705934669439343138083508754565189542113879843219016388785533085940283555
theorem dN_hp : Eqp (dN ^ hp + 1) 0:=by
 have h : ∀ b : Nat,Pr.pm (2 ^ 255 - 19) 254 b (2 ^ 254 - 10) 1 % (2 ^ 255 - 19) = (2 ^ 255 - 20)→Eqp (b ^ hp + 1) 0:=by
  intro b hb
  have hq:=Pr.pm_one (n:=2 ^ 255 - 19) (f:=254) (b:=b) (e:=2 ^ 254 - 10) (by decide)
  unfold Pr.Eqm at hq
  rw [hb] at hq
  have e : hp = 2 ^ 254 - 10:=rfl
  rw [← e] at hq
  generalize b ^ hp = X at *
  unfold Eqp
  omega
 exact h dN (by decide +kernel)
theorem dN_not0 : ¬ Eqp dN 0:=by decide +kernel
theorem dN_nsq (x : Fin Pr.pp) (h : x * x = tf dN) : False:=by
 have h1 : Eqp (x.val * x.val) dN:=by rw [← qhf,qda,qea];exact h
 have h2 : ¬ Pr.pp ∣ x.val:=fun hd=>by
  have h0:=(qd6 _).1 hd
  exact dN_not0 (h1.sy.tr (h0.mul h0))
 have h3:=qh8 h2 h1
 have h4:=dN_hp
 generalize dN ^ hp = X at *
 unfold Eqp at *
 omega
def C7 : Crv Pr.pp where
 d:=tf dN
 i:=tf rm1
 iv:=fiv
 one:=by
  rw [← qgj]
  exact qpa.2 (by unfold Pr.pp;decide)
 two:=by
  rw [← qgj,← qdo]
  exact qpa.2 (by unfold Pr.pp;decide)
 ii:=by
  have h:=rm1_sq.tf
  rw [qdo,qda,qcw,qgj] at h
  exact h
 mul_iv:=qe6
 nsq:=fun s t ht h=>dN_nsq (s * fiv t) (by
  have h1:=qe6 t ht
  grind)
abbrev F7:=Fin Pr.pp
abbrev P7:=Pt C7
def bxN : Nat:=15112221349535400772501151409588531511454012693041857206046113283949847762202
def byN : Nat:=46316835694926478169428394003475163141307993866256225615783033603165251855960
theorem sub_tf (a b : Nat) : tf (a + negp b) = tf a - tf b:=by
 rw [qdo,qlm]
 generalize tf a = x
 generalize tf b = y
 grind
theorem on_of {x y : Nat} (h : Eqp (y * y + negp (x * x)) (1 + dN * (x * x) * (y * y))) : C7.on (tf x) (tf y):=by
 have h1:=h.tf
 rw [sub_tf] at h1
 simp only [qdo,qda,qgj] at h1
 exact h1
theorem base_on : Eqp (byN * byN + negp (bxN * bxN)) (1 + dN * (bxN * bxN) * (byN * byN)):=by decide +kernel
def B7 : P7:=⟨tf bxN,tf byN,on_of base_on⟩
def ordN : Nat:=2 ^ 252 + 27742317777372353535851937790883648493
def dbX (X Y Z T : Nat) : Nat:=((X + Y) * (X + Y) + negp (X * X) + negp (Y * Y)) * (Y * Y + negp (X * X) + negp (Z * Z + Z * Z)) % (2 ^ 255 - 19)
def dbY (X Y Z T : Nat) : Nat:=(Y * Y + negp (X * X)) * (negp (X * X) + negp (Y * Y)) % (2 ^ 255 - 19)
def dbZ (X Y Z T : Nat) : Nat:=(Y * Y + negp (X * X) + negp (Z * Z + Z * Z)) * (Y * Y + negp (X * X)) % (2 ^ 255 - 19)
def dbT (X Y Z T : Nat) : Nat:=((X + Y) * (X + Y) + negp (X * X) + negp (Y * Y)) * (negp (X * X) + negp (Y * Y)) % (2 ^ 255 - 19)
def plA (X Y : Nat) : Nat:=(Y + negp X) * (byN + negp bxN)
def plB (X Y : Nat) : Nat:=(Y + X) * (byN + bxN)
def plC (T : Nat) : Nat:=T * (bxN * byN) * (dN + dN)
def plX (X Y Z T : Nat) : Nat:=(plB X Y + negp (plA X Y)) * (Z + Z + negp (plC T)) % (2 ^ 255 - 19)
def plY (X Y Z T : Nat) : Nat:=(Z + Z + plC T) * (plB X Y + plA X Y) % (2 ^ 255 - 19)
def plZ (X Y Z T : Nat) : Nat:=(Z + Z + negp (plC T)) * (Z + Z + plC T) % (2 ^ 255 - 19)
def plT (X Y Z T : Nat) : Nat:=(plB X Y + negp (plA X Y)) * (plB X Y + plA X Y) % (2 ^ 255 - 19)
theorem tf_mod (a : Nat) : tf (a % (2 ^ 255 - 19)) = tf a:=qhf.2 (Nat.mod_mod _ _)
def RepN (X Y Z T : Nat) (P : P7) : Prop:=Rep (tf X) (tf Y) (tf Z) (tf T) P
theorem RepN.db {X Y Z T : Nat} {P : P7} (h : RepN X Y Z T P) : RepN (dbX X Y Z T) (dbY X Y Z T) (dbZ X Y Z T) (dbT X Y Z T) (P.add P):=by
 have hr:=Rep.double h rfl rfl rfl rfl rfl rfl rfl rfl
 unfold RepN dbX dbY dbZ dbT
 simp only [tf_mod,qda,qdo,qlm]
 generalize tf X = x at *
 generalize tf Y = y at *
 generalize tf Z = z at *
 generalize tf T = t at *
 clear h
 have e1 : (x + y) * (x + y) + -(x * x) + -(y * y) = (x + y) * (x + y) - x * x - y * y:=by grind
 have e2 : y * y + -(x * x) + -(z * z + z * z) = y * y - x * x - (z * z + z * z):=by grind
 have e3 : y * y + -(x * x) = y * y - x * x:=by grind
 have e4 : -(x * x) + -(y * y) = 0 - x * x - y * y:=by grind
 rw [e1,e2,e3,e4]
 exact hr
theorem RepN.pl {X Y Z T : Nat} {P : P7} (h : RepN X Y Z T P) : RepN (plX X Y Z T) (plY X Y Z T) (plZ X Y Z T) (plT X Y Z T) (P.add B7):=by
 have hr:=Rep.plus h (Rep.of B7) rfl rfl rfl rfl rfl rfl rfl rfl
 unfold RepN plX plY plZ plT plA plB plC
 simp only [tf_mod,qda,qdo,qlm]
 change Rep _ _ _ _ (P.add B7) at hr
 have ex : B7.x = tf bxN:=rfl
 have ey : B7.y = tf byN:=rfl
 have ed : C7.d = tf dN:=rfl
 rw [ex,ey,ed] at hr
 generalize B7 = B at *
 generalize tf X = x at *
 generalize tf Y = y at *
 generalize tf Z = z at *
 generalize tf T = t at *
 generalize tf bxN = u at *
 generalize tf byN = v at *
 generalize tf dN = d at *
 clear h ex ey ed
 have e1 : (y + x) * (v + u) + -((y + -x) * (v + -u)) = (y + x) * (v + u) - (y - x) * (v - u):=by clear hr;grind
 have e2 : z + z + -(t * (u * v) * (d + d)) = z * 1 + z * 1 - t * (u * v) * (d + d):=by clear hr;grind
 have e3 : z + z + t * (u * v) * (d + d) = z * 1 + z * 1 + t * (u * v) * (d + d):=by clear hr;grind
 have e4 : (y + x) * (v + u) + (y + -x) * (v + -u) = (y + x) * (v + u) + (y - x) * (v - u):=by clear hr;grind
 rw [e1,e2,e3,e4]
 exact hr
def fc (n : Nat) (g : Nat→Bool) : Bool :=
 match n with
 | 0=>g 0
 | m + 1=>g (m + 1)
theorem fc_eq (n : Nat) (g : Nat→Bool) : fc n g = g n:=by cases n <;> rfl
def lad : List Bool→Nat→Nat→Nat→Nat→Bool
 | [],X,Y,Z,T=>X % (2 ^ 255 - 19) == 0 && Y % (2 ^ 255 - 19) == Z % (2 ^ 255 - 19)
 | b :: l,X,Y,Z,T=>fc (dbX X Y Z T) fun X1=>fc (dbY X Y Z T) fun Y1=>fc (dbZ X Y Z T) fun Z1=>fc (dbT X Y Z T) fun T1 =>
  if b then fc (plX X1 Y1 Z1 T1) fun X2=>fc (plY X1 Y1 Z1 T1) fun Y2=>fc (plZ X1 Y1 Z1 T1) fun Z2=>fc (plT X1 Y1 Z1 T1) fun T2=>lad l X2 Y2 Z2 T2 else lad l X1 Y1 Z1 T1
theorem lad_nil (X Y Z T : Nat) : lad [] X Y Z T = (X % (2 ^ 255 - 19) == 0 && Y % (2 ^ 255 - 19) == Z % (2 ^ 255 - 19)):=rfl
theorem lad_cons (b : Bool) (l : List Bool) (X Y Z T : Nat) : ∃ X1 Y1 Z1 T1,(∀ P,RepN X Y Z T P→RepN X1 Y1 Z1 T1 (P.add P))∧lad (b :: l) X Y Z T = if b then lad l (plX X1 Y1 Z1 T1) (plY X1 Y1 Z1 T1) (plZ X1 Y1 Z1 T1) (plT X1 Y1 Z1 T1) else lad l X1 Y1 Z1 T1 :=
 ⟨dbX X Y Z T,dbY X Y Z T,dbZ X Y Z T,dbT X Y Z T,fun _ h=>h.db,by rw [lad];simp only [fc_eq]⟩
def qik : List Bool→Nat→Nat
 | [],k=>k
 | b :: l,k=>qik l (2 * k + (if b then 1 else 0))
theorem qlb (b : Bool) (l : List Bool) (k : Nat) : qik (b :: l) k = qik l (2 * k + (if b then 1 else 0)):=rfl
theorem qcq (k : Nat) (P : P7) : (Pt.mul k P).add (Pt.mul k P) = Pt.mul (2 * k) P:=by rw [← Pt.mul_add,Nat.two_mul]
theorem lad_end {X Y Z T : Nat} {P : P7} (h : RepN X Y Z T P) (hl : (X % (2 ^ 255 - 19) == 0 && Y % (2 ^ 255 - 19) == Z % (2 ^ 255 - 19)) = true) : P = Pt.zero C7:=by
 simp only [Bool.and_eq_true,beq_iff_eq] at hl
 have h1 : tf X = 0:=by rw [← qcw];exact qhf.2 hl.1
 have h2 : tf Y = tf Z:=qhf.2 hl.2
 obtain ⟨z,x,y,t⟩:=h
 have h3 : P.x = 0:=by
  rcases C7.zero_or (x.symm.trans h1) with h | h
  ·exact h
  ·exact absurd h z
 have h4 : P.y = 1:=by
  rw [h2] at y
  refine C7.cancel z ?_
  generalize P.y = w at *
  generalize tf Z = v at *
  clear x z t h1 h2 h3
  grind
 exact Pt.ext_ h3 h4
theorem lad_is (l : List Bool) : ∀ (k X Y Z T : Nat),RepN X Y Z T (Pt.mul k B7)→lad l X Y Z T = true→Pt.mul (qik l k) B7 = Pt.zero C7:=by
 induction l with
 | nil =>
  intro k X Y Z T h hl
  rw [lad_nil] at hl
  exact lad_end h hl
 | cons b l ih =>
  intro k X Y Z T h hl
  obtain ⟨X1,Y1,Z1,T1,hd,he⟩:=lad_cons b l X Y Z T
  have h1:=hd _ h
  rw [qcq] at h1
  rw [he] at hl
  rw [qlb]
  cases b
  ·exact ih _ _ _ _ _ h1 hl
  ·have h2:=h1.pl
   rw [← Pt.mul_succ] at h2
   exact ih _ _ _ _ _ h2 hl
def ql1 : List Bool:=(List.range 253).map fun i=>(ordN >>> (252 - i)) % 2 == 1
theorem ord_bits : qik ql1 0 = ordN:=by decide +kernel
theorem ord_lad : lad ql1 0 1 1 0 = true:=by decide +kernel
theorem qjs : Pt.mul ordN B7 = Pt.zero C7:=by
 have h : RepN 0 1 1 0 (Pt.mul 0 B7):=by
  show Rep (tf 0) (tf 1) (tf 1) (tf 0) (Pt.zero C7)
  rw [qcw,qgj]
  exact Rep.zero C7
 have:=lad_is ql1 0 _ _ _ _ h ord_lad
 rwa [ord_bits] at this
end Go.Cv
end
end
section
section
namespace Go.Cv
open Go.RowKit Go.Cv.Pr Go.Cv.Grp
def isE (u : Value) (x : F7) : Prop:=∃ a b c d,u = el a b c d∧tf (val4 a b c d) = x
def fb (x : F7) : Nat→UInt8:=nb x.val
theorem ob_fb (n : Nat) : ob n = fb (tf n):=rfl
theorem V_fb (x : F7) : V (fb x) = x.val:=V_nb (Nat.lt_trans x.isLt (by unfold Pr.pp;decide))
theorem qbw (x : F7) : tf (V (fb x)) = x:=by rw [V_fb,qea]
theorem qmi (x y : F7) : beqb (fb x) (fb y) = decide (x = y):=by
 unfold fb
 rw [qmh (Nat.lt_trans x.isLt (by unfold Pr.pp;decide)) (Nat.lt_trans y.isLt (by unfold Pr.pp;decide))]
 by_cases h : x = y
 ·subst h;simp
 ·rw [decide_eq_false h,decide_eq_false (fun e=>h (Fin.ext e))]
section
variable {P : Program} {w : World} {o : Oper} {ev : Operand→Value} {R : Value→World→Prop}
theorem qci (ty : TypeId) (x : Operand) (ho : o.op = .load ty x) (n : Nat) (hx : ev x = .pointer (some ⟨n,0,none⟩)) {T : TypeId} {cs : List Value} (hR : Row w n T cs) (d : TypeDesc)
  (hu : P.underlying ty = some d) (hd : (match d with | .struct _ | .array _ _=>true | _=>false) = true) (hi : (P.info? ty).map (·.size) = some cs.length) (h : R (.agg cs.toArray) w) : qak P R ((execOp ev o).run P w):=by
 unfold execOp
 simp only [ho,hx,Instr.loadAt,Instr.sureAddr,Sem.run_bind,Sem.run_pure,Result.andThen_ok,run_loadVar_row w n T ty cs.toArray (0,0) d hR hu hd (by simpa using hi)]
 exact h
theorem qhg (w : World) (g k : Nat) (t ty : TypeId) (cs part : List Value) (fr : Nat × Nat) (d : TypeDesc) (hg : w.heap[g]? = some (.cells cs.toArray t fr)) (hp : (cs.drop k).take part.length = part)
  (hu : P.underlying ty = some d) (hd : (match d with | .struct _ | .array _ _=>true | _=>false) = true) (hi : (P.info? ty).map (·.size) = some part.length) :
  (loadVar ty ⟨g,k,none⟩).run P w = .ok (.agg part.toArray) w:=by
 have hl : (loadCells ⟨g,k,none⟩ part.length).run P w = .ok part.toArray w :=
  run_loadCells_list (P:=P) w ⟨g,k,none⟩ part (fun j v hv=>by
   have hadd : (⟨g,k,none⟩ : Addr).add j = ⟨g,k + j,none⟩:=by unfold Addr.add;split <;> simp_all
   rw [hadd,cell_of_row w g (k + j) cs.toArray t fr hg]
   rw [← hp] at hv
   rw [List.getElem?_take] at hv
   split at hv
   ·rw [List.getElem?_drop] at hv
    simpa using hv
   ·cases hv)
 cases hq : P.info? ty with
 | none=>simp [hq] at hi
 | some i =>
  have hs : i.size = part.length:=by simpa [hq] using hi
  have hagg : (isAgg ty).run P w = .ok true w:=by
   unfold isAgg
   rw [Sem.run_bind,run_underlying hu w]
   cases d <;> simp_all
  simp [loadVar,Sem.run_bind,hagg,sizeOf,typeInfo,hq,hs,hl]
theorem qa2 (ty : TypeId) (x : Operand) (ho : o.op = .load ty x) (n k : Nat) (hx : ev x = .pointer (some ⟨n,k,none⟩)) {T : TypeId} {cs : List Value} (hR : Row w n T cs) (part : List Value) (hp : (cs.drop k).take part.length = part) (d : TypeDesc)
  (hu : P.underlying ty = some d) (hd : (match d with | .struct _ | .array _ _=>true | _=>false) = true) (hi : (P.info? ty).map (·.size) = some part.length) (h : R (.agg part.toArray) w) : qak P R ((execOp ev o).run P w):=by
 unfold execOp
 simp only [ho,hx,Instr.loadAt,Instr.sureAddr,Sem.run_bind,Sem.run_pure,Result.andThen_ok,qhg w n k T ty cs part (0,0) d hR hp hu hd hi]
 exact h
theorem qei (f : FuncId) (fn : Func) (l : List Operand) (ats : Array TypeId) (ho : o.op = .call { callee:=.value (.func f),args:=l.toArray,argTypes:=ats }) (hev : ev (.func f) = .func (.func f) #[] #[])
  (hfn : P.funcs[f]? = some fn) (h1 : (fn.name == "runtime.NumGoroutine") = false) (h2 : fn.body.isNone = false)
  (h : Calls P f (l.map ev).toArray w (fun e w'=>∃ u,e = .returned u∧R u w')) : qak P R ((execOp ev o).run P w):=by
 unfold execOp
 simp only [ho,resolve,hev,Deferred.ofValue,invoke,callFunc,List.map_toArray,Sem.run_bind,Sem.run_pure,Result.andThen_ok,run_program,hfn,h1,h2]
 simp
 exact h
theorem qbx (ty : TypeId) (x y : Operand) (ho : o.op = .store ty x y) (n : Nat) (cells : Array Value) (hx : ev x = .pointer (some ⟨n,0,none⟩)) (hy : ev y = .agg cells) {T : TypeId} {cs : List Value} (hR : Row w n T cs)
  (hi : (P.info? ty).map (·.size) = some cells.size) (hs : cs.length = cells.size) (h1 : cells.all (·.oneCell') = true)
  (h : ∀ w',Row w' n T cells.toList→Keep [n] w w'→R undef w') : qak P R ((execOp ev o).run P w):=by
 unfold execOp
 simp only [ho,hx,hy,Instr.storeAt,Instr.sureAddr,Sem.run_bind,Sem.run_pure,Result.andThen_ok,run_storeVar_row w n T ty cs.toArray cells hR hi (by simpa using hs) h1]
 refine h _ ?_ ?_
 ·unfold Row
  rw [Array.toArray_toList]
  exact setRow_heap w n _ cells T (0,0) hR
 ·refine ⟨rfl,rfl,rfl,by simp [World.setRow],fun k _ hk=>?_⟩
  exact setRow_other w n k cells (by simpa using hk)
end
theorem el_one (a b c d : UInt64) : (w4 a b c d).all (·.oneCell') = true:=by simp [w4,Value.oneCell']
end Go.Cv
namespace Go.Proofs.YtgeihelkkhjjaaaGreatDoor
open Go.RowKit Go.Cv Go.Cv.Pr Go.Cv.Grp
def GC (f : FuncId) : Prop:=∀ {w : World} {o : Oper} {ev : Operand→Value} {R : Value→World→Prop} (l : List Operand) (ats : Array TypeId),o.op = .call { callee:=.value (.func f),args:=l.toArray,argTypes:=ats }→ev (.func f) = .func (.func f) #[] #[]→Calls Tryz.prog f (l.map ev).toArray w (fun e w'=>∃ u,e = .returned u∧R u w')→qak Tryz.prog R ((execOp ev o).run Tryz.prog w)
theorem gcOf {f : FuncId} {fn : Func} (hfn : Tryz.prog.funcs[f]? = some fn) (h1 : (fn.name == "runtime.NumGoroutine") = false) (h2 : fn.body.isNone = false) : GC f := fun l ats ho hev h => qei f fn l ats ho hev hfn h1 h2 h
theorem emul {u v : Value} {x y : F7} (hu : isE u x) (hv : isE v y) (w : World) :
  Calls Tryz.prog 85 #[u,v] w fun e w'=>∃ r,e = .returned r∧isE r (x * y)∧Ext w w':=by
 obtain ⟨a,b,c,d,rfl,rfl⟩:=hu
 obtain ⟨a',b',c',d',rfl,rfl⟩:=hv
 refine (qb1 a b c d a' b' c' d' w).mono ?_
 rintro e w' ⟨s0,s1,s2,s3,rfl,hs,hx⟩
 exact ⟨_,rfl,⟨s0,s1,s2,s3,rfl,by rw [hs.tf,qda]⟩,hx⟩
theorem eadd {u v : Value} {x y : F7} (hu : isE u x) (hv : isE v y) (w : World) :
  Calls Tryz.prog 88 #[u,v] w fun e w'=>∃ r,e = .returned r∧isE r (x + y)∧Ext w w':=by
 obtain ⟨a,b,c,d,rfl,rfl⟩:=hu
 obtain ⟨a',b',c',d',rfl,rfl⟩:=hv
 refine (qr0 a b c d a' b' c' d' w).mono ?_
 rintro e w' ⟨s0,s1,s2,s3,rfl,hs,hx⟩
 exact ⟨_,rfl,⟨s0,s1,s2,s3,rfl,by rw [hs.tf,qdo]⟩,hx⟩
theorem esub {u v : Value} {x y : F7} (hu : isE u x) (hv : isE v y) (w : World) :
  Calls Tryz.prog 86 #[u,v] w fun e w'=>∃ r,e = .returned r∧isE r (x - y)∧Ext w w':=by
 obtain ⟨a,b,c,d,rfl,rfl⟩:=hu
 obtain ⟨a',b',c',d',rfl,rfl⟩:=hv
 refine (qlp a b c d a' b' c' d' w).mono ?_
 rintro e w' ⟨s0,s1,s2,s3,rfl,hs,hx⟩
 refine ⟨_,rfl,⟨s0,s1,s2,s3,rfl,?_⟩,hx⟩
 have h:=hs.tf
 rw [qdo] at h
 generalize tf (val4 s0 s1 s2 s3) = p at *
 generalize tf (val4 a' b' c' d') = q at *
 generalize tf (val4 a b c d) = r at *
 clear hs hx
 grind
theorem einv {u : Value} {x : F7} (hu : isE u x) (w : World) :
  Calls Tryz.prog 89 #[u] w fun e w'=>∃ r,e = .returned r∧isE r (fiv x)∧Ext w w':=by
 obtain ⟨a,b,c,d,rfl,rfl⟩:=hu
 refine (inv_any a b c d w).mono ?_
 rintro e w' ⟨s0,s1,s2,s3,rfl,hs,hx⟩
 exact ⟨_,rfl,⟨s0,s1,s2,s3,rfl,by rw [(pI_is hs).tf,tf_pI]⟩,hx⟩
theorem eout {u : Value} {x : F7} (hu : isE u x) (w : World) :
  Calls Tryz.prog 91 #[u] w fun e w'=>e = .returned (.agg (qab (fb x)))∧Ext w w':=by
 obtain ⟨a,b,c,d,rfl,rfl⟩:=hu
 exact qp6 a b c d w
theorem ein (f : Nat→UInt8) (w : World) :
  Calls Tryz.prog 84 #[.agg (qab f)] w fun e w'=>∃ r,e = .returned r∧isE r (tf (V f))∧Ext w w':=by
 refine (in_any f w).mono ?_
 rintro e w' ⟨rfl,hx⟩
 exact ⟨_,rfl,⟨_,_,_,_,rfl,by rw [V_wd]⟩,hx⟩
end Go.Proofs.YtgeihelkkhjjaaaGreatDoor
end
section
namespace Go.Cv
open Go.RowKit Go.Cv.Pr Go.Cv.Grp
def RV (w : World) (n : Nat) (T : TypeId) (φ : Value→Prop) : Prop:=∃ cs,Row w n T cs∧φ (.agg (List.toArray cs))
theorem RV.keep {bs : List Nat} {w w' : World} {n : Nat} {T : TypeId} {φ : Value→Prop} (h : RV w n T φ) (k : Keep bs w w') (hb : n ∉ bs) : RV w' n T φ:=by
 obtain ⟨cs,h1,h2⟩:=h
 exact ⟨cs,h1.keep k hb,h2⟩
theorem RV.ext {w w' : World} {n : Nat} {T : TypeId} {φ : Value→Prop} (h : RV w n T φ) (k : Ext w w') : RV w' n T φ:=by
 obtain ⟨cs,h1,h2⟩:=h
 exact ⟨cs,h1.ext k,h2⟩
theorem RV.lt {w : World} {n : Nat} {T : TypeId} {φ : Value→Prop} (h : RV w n T φ) : n < w.heap.size:=by
 obtain ⟨cs,h1,h2⟩:=h
 exact h1.lt
theorem Ext.keep_ {w a b : World} {ns : List Nat} (h : Ext w a) (k : Keep ns a b) (hn : ∀ x ∈ ns,w.heap.size ≤ x) : Ext w b:=Below.trans h (k.below hn h.size)
theorem Inv.start0 {ns : List Nat} {VF : Nat→Value→Prop} {trs : List Trk} {w0 : World} (hok : TrsOk ns w0.heap.size trs) (h : ∀ t ∈ trs,t.al = none→∃ cs,Row w0 t.n0 t.T cs∧t.old cs) : Inv ns VF trs w0 (fun _=>false) (fun _=>undef) w0 :=
 ⟨⟨rfl,rfl,rfl,Nat.le_refl _,fun _ _ _=>rfl⟩,fun j hj=>(by cases hj),fun t ht hth=>by
  cases hal : t.al with
  | none =>
   obtain ⟨cs,h1,h2⟩:=h t ht hal
   exact ⟨t.n0,cs,by unfold Trk.blk;rw [hal],.inl rfl,h1,fun s _ hs=>(by cases hs),fun _=>h2⟩
  | some k=>exact absurd (hth k hal) (by simp),fun r hr s hs k l _ _ _ hk _=>by cases hk⟩
theorem Inv.row_old {ns : List Nat} {VF : Nat→Value→Prop} {trs : List Trk} {w0 w : World} {L : Nat→Bool} {v : Nat→Value} (hI : Inv ns VF trs w0 L v w) (t : Trk) (ht : t ∈ trs) (hal : t.al = none) (hst : ∀ s,t.st = some s→L s = false) : ∃ cs,Row w t.n0 t.T cs∧t.old cs:=by
 obtain ⟨n,cs,h1,_,h3,_,h5⟩:=hI.trk t ht (fun k hk=>by rw [hal] at hk;cases hk)
 unfold Trk.blk at h1
 rw [hal] at h1
 simp only at h1
 subst h1
 exact ⟨cs,h3,h5 hst⟩
theorem Inv.row_new {ns : List Nat} {VF : Nat→Value→Prop} {trs : List Trk} {w0 w : World} {L : Nat→Bool} {v : Nat→Value} (hI : Inv ns VF trs w0 L v w) (t : Trk) (ht : t ∈ trs) (hal : t.al = none) (s : Nat) (hs : t.st = some s) (hL : L s = true) : ∃ cs,Row w t.n0 t.T cs∧t.new cs:=by
 obtain ⟨n,cs,h1,_,h3,h4,_⟩:=hI.trk t ht (fun k hk=>by rw [hal] at hk;cases hk)
 unfold Trk.blk at h1
 rw [hal] at h1
 simp only at h1
 subst h1
 exact ⟨cs,h3,h4 s hs hL⟩
theorem Inv.row_made {ns : List Nat} {VF : Nat→Value→Prop} {trs : List Trk} {w0 w : World} {L : Nat→Bool} {v : Nat→Value} (hI : Inv ns VF trs w0 L v w) (t : Trk) (ht : t ∈ trs) (k : Nat) (hal : t.al = some k) (hk : L k = true) :
  ∃ n cs,v k = .pointer (some ⟨n,0,none⟩)∧w0.heap.size ≤ n∧Row w n t.T cs∧(∀ s,t.st = some s→L s = true→t.new cs)∧((∀ s,t.st = some s→L s = false)→t.old cs):=by
 obtain ⟨n,cs,h1,h2,h3,h4,h5⟩:=hI.trk t ht (fun j hj=>by rw [hal] at hj;injection hj with hj;rw [← hj];exact hk)
 unfold Trk.blk at h1
 rw [hal] at h1
 rcases h2 with h2 | h2
 ·rw [hal] at h2;cases h2
 ·exact ⟨n,cs,h1,h2,h3,h4,h5⟩
theorem qia {L : Nat→Bool} {pl : List Plan} {i s : Nat} (hC : ∀ j,L j = true→∀ d ∈ qaw pl j,L d = true) (hL : L i = false) (hd : (qaw pl s).contains i = true) : L s = false:=by
 cases h : L s
 ·rfl
 ·have:=hC s h i (List.contains_iff_mem.1 hd)
  rw [hL] at this
  cases this
theorem Keep.to_ext {w w' : World} (h : Keep [] w w') : Ext w w':=⟨h.os,h.tape,h.output,h.size,fun k hk=>h.keep k hk (by simp)⟩
def isFl (u : Value) (x y : F7) : Prop:=∃ a0 a1 a2 a3 b0 b1 b2 b3,u = .agg #[.int .u64 (n64 a0),.int .u64 (n64 a1),.int .u64 (n64 a2),.int .u64 (n64 a3),.int .u64 (n64 b0),.int .u64 (n64 b1),.int .u64 (n64 b2),.int .u64 (n64 b3)]∧tf (val4 a0 a1 a2 a3) = x∧tf (val4 b0 b1 b2 b3) = y
def isW (u : Value) (x y z t : F7) : Prop:=∃ a0 a1 a2 a3 b0 b1 b2 b3 c0 c1 c2 c3 d0 d1 d2 d3,u = .agg #[.int .u64 (n64 a0),.int .u64 (n64 a1),.int .u64 (n64 a2),.int .u64 (n64 a3),.int .u64 (n64 b0),.int .u64 (n64 b1),.int .u64 (n64 b2),.int .u64 (n64 b3),.int .u64 (n64 c0),.int .u64 (n64 c1),.int .u64 (n64 c2),.int .u64 (n64 c3),.int .u64 (n64 d0),.int .u64 (n64 d1),.int .u64 (n64 d2),.int .u64 (n64 d3)]∧tf (val4 a0 a1 a2 a3) = x∧tf (val4 b0 b1 b2 b3) = y∧tf (val4 c0 c1 c2 c3) = z∧tf (val4 d0 d1 d2 d3) = t
theorem qid {cs : List Value} {x : F7} (h : isE (.agg cs.toArray) x) : cs.length = 4:=by
 obtain ⟨a,b,c,d,h1,_⟩:=h
 injection h1 with h1
 have:=congrArg Array.size h1
 simpa using this
theorem qnf (a b c d : UInt64) {x : F7} (h : tf (val4 a b c d) = x) : isE (.agg #[.int .u64 (n64 a),.int .u64 (n64 b),.int .u64 (n64 c),.int .u64 (n64 d)]) x:=⟨a,b,c,d,rfl,h⟩
theorem qq0 {u : Value} {x : F7} (h : isE u x) : ∃ c : Array Value,u = .agg c∧c.size = 4∧c.all (·.oneCell') = true∧isE (.agg c.toList.toArray) x:=by
 obtain ⟨a,b,c,d,rfl,h2⟩:=h
 exact ⟨w4 a b c d,rfl,rfl,el_one a b c d,⟨a,b,c,d,rfl,h2⟩⟩
theorem qg0 {cs : List Value} {x y z t : F7} (h : isW (.agg cs.toArray) x y z t) : cs.length = 16:=by
 obtain ⟨a0,a1,a2,a3,b0,b1,b2,b3,c0,c1,c2,c3,d0,d1,d2,d3,h1,_⟩:=h
 injection h1 with h1
 have:=congrArg Array.size h1
 simpa using this
theorem qeh {u : Value} {x y z t : F7} (h : isW u x y z t) : ∃ c : Array Value,u = .agg c∧c.size = 16∧c.all (·.oneCell') = true∧isW (.agg c.toList.toArray) x y z t:=by
 obtain ⟨a0,a1,a2,a3,b0,b1,b2,b3,c0,c1,c2,c3,d0,d1,d2,d3,rfl,h2⟩:=h
 exact ⟨_,rfl,rfl,by simp [Value.oneCell'],⟨a0,a1,a2,a3,b0,b1,b2,b3,c0,c1,c2,c3,d0,d1,d2,d3,rfl,h2⟩⟩
theorem qgm {cs : List Value} {x y z t : F7} (h : isW (.agg cs.toArray) x y z t) : ∃ p q r s : List Value,p.length = 4∧q.length = 4∧r.length = 4∧s.length = 4∧(cs.drop 0).take p.length = p∧(cs.drop 4).take q.length = q∧(cs.drop 8).take r.length = r∧(cs.drop 12).take s.length = s ∧
  isE (.agg p.toArray) x∧isE (.agg q.toArray) y∧isE (.agg r.toArray) z∧isE (.agg s.toArray) t:=by
 obtain ⟨a0,a1,a2,a3,b0,b1,b2,b3,c0,c1,c2,c3,d0,d1,d2,d3,h1,h2,h3,h4,h5⟩:=h
 injection h1 with h1
 have hc : cs = [.int .u64 (n64 a0),.int .u64 (n64 a1),.int .u64 (n64 a2),.int .u64 (n64 a3),.int .u64 (n64 b0),.int .u64 (n64 b1),.int .u64 (n64 b2),.int .u64 (n64 b3),.int .u64 (n64 c0),.int .u64 (n64 c1),.int .u64 (n64 c2),.int .u64 (n64 c3),.int .u64 (n64 d0),.int .u64 (n64 d1),.int .u64 (n64 d2),.int .u64 (n64 d3)]:=by
  have:=congrArg Array.toList h1
  simpa using this
 subst hc
 exact ⟨_,_,_,_,rfl,rfl,rfl,rfl,rfl,rfl,rfl,rfl,qnf _ _ _ _ h2,qnf _ _ _ _ h3,qnf _ _ _ _ h4,qnf _ _ _ _ h5⟩
noncomputable def pcL (f g : Nat→UInt8) : List Value:=(qab f).toList ++ (qab g).toList
noncomputable def pc (f g : Nat→UInt8) : Array Value:=(pcL f g).toArray
theorem qa1 (f g : Nat→UInt8) : (pcL f g).length = 64:=by simp [pcL]
theorem pc_0 (f g : Nat→UInt8) : ((pcL f g).drop 0).take (qab f).toList.length = (qab f).toList:=by simp [pcL]
theorem pc_32 (f g : Nat→UInt8) : ((pcL f g).drop 32).take (qab g).toList.length = (qab g).toList:=by
 have : (pcL f g).drop 32 = (qab g).toList:=by
  unfold pcL
  rw [List.drop_append_of_le_length (by simp),List.drop_of_length_le (by simp),List.nil_append]
 rw [this,List.take_length]
theorem qb4 (f g : Nat→UInt8) : (pc f g).size = 64:=by
 unfold pc
 rw [List.size_toArray,qa1]
theorem qkk (f g : Nat→UInt8) : (pc f g).all (·.oneCell') = true:=by
 unfold pc pcL
 have h1:=qcu f
 have h2:=qcu g
 rw [Array.all_eq_true_iff_forall_mem] at *
 intro x hx
 simp only [List.mem_toArray,List.mem_append,Array.mem_toList_iff] at hx
 rcases hx with h | h
 ·exact h1 x h
 ·exact h2 x h
theorem qip (f g : Nat→UInt8) : pc f g = qab f ++ qab g:=by
 unfold pc pcL
 apply Array.ext'
 simp
theorem qbz {cs : List Value} {f g : Nat→UInt8} (h : (.agg cs.toArray : Value) = .agg (pc f g)) : cs = pcL f g:=by
 injection h with h
 have:=congrArg Array.toList h
 simpa [pc] using this
theorem qgb {cs : List Value} {f : Nat→UInt8} (h : (.agg cs.toArray : Value) = .agg (qab f)) : cs = (qab f).toList:=by
 injection h with h
 have:=congrArg Array.toList h
 simpa using this
end Go.Cv
namespace Go.Proofs.YtgeihelkkhjjaaaGreatDoor
open Go.RowKit Go.Cv Go.Cv.Pr Go.Cv.Grp
theorem iEl : (Tryz.prog.info? 101).map (·.size) = some 4:=by kernel_rfl
theorem uWd : ∃ fs,Tryz.prog.underlying 105 = some (.struct fs):=⟨_,Tryz.underlying105⟩
theorem iWd : (Tryz.prog.info? 105).map (·.size) = some 16:=by kernel_rfl
theorem uPt : ∃ fs,Tryz.prog.underlying 49 = some (.struct fs):=⟨_,Tryz.underlying49⟩
theorem iPt : (Tryz.prog.info? 49).map (·.size) = some 64:=by kernel_rfl
section
variable {w : World} {o : Oper} {ev : Operand→Value} {R : Value→World→Prop} {n : Nat} {x y z t : F7} {f g : Nat→UInt8}
theorem ld_E (hR : RV w n 101 (fun u=>isE u x)) (p : Operand) (ho : o.op = .load 101 p) (hx : ev p = .pointer (some ⟨n,0,none⟩)) (h : ∀ u,isE u x→R u w) : qak Tryz.prog R ((execOp ev o).run Tryz.prog w):=by
 obtain ⟨cs,h1,h2⟩:=hR
 exact qci _ p ho n hx h1 _ u73 rfl (by rw [qid h2];exact iEl) (h _ h2)
theorem ld_W (hR : RV w n 105 (fun u=>isW u x y z t)) (p : Operand) (ho : o.op = .load 105 p) (hx : ev p = .pointer (some ⟨n,0,none⟩)) (h : ∀ u,isW u x y z t→R u w) : qak Tryz.prog R ((execOp ev o).run Tryz.prog w):=by
 obtain ⟨cs,h1,h2⟩:=hR
 obtain ⟨fs,hu⟩:=uWd
 exact qci _ p ho n hx h1 _ hu rfl (by rw [qg0 h2];exact iWd) (h _ h2)
theorem qkw (hR : RV w n 105 (fun u=>isW u x y z t)) (p : Operand) (ho : o.op = .load 101 p) (hx : ev p = .pointer (some ⟨n,0,none⟩)) (h : ∀ u,isE u x→R u w) : qak Tryz.prog R ((execOp ev o).run Tryz.prog w):=by
 obtain ⟨cs,h1,h2⟩:=hR
 obtain ⟨p1,q1,r1,s1,l1,l2,l3,l4,e1,e2,e3,e4,i1,i2,i3,i4⟩:=qgm h2
 exact qa2 _ p ho n 0 hx h1 p1 e1 _ u73 rfl (by rw [l1];exact iEl) (h _ i1)
theorem qkv (hR : RV w n 105 (fun u=>isW u x y z t)) (p : Operand) (ho : o.op = .load 101 p) (hx : ev p = .pointer (some ⟨n,4,none⟩)) (h : ∀ u,isE u y→R u w) : qak Tryz.prog R ((execOp ev o).run Tryz.prog w):=by
 obtain ⟨cs,h1,h2⟩:=hR
 obtain ⟨p1,q1,r1,s1,l1,l2,l3,l4,e1,e2,e3,e4,i1,i2,i3,i4⟩:=qgm h2
 exact qa2 _ p ho n 4 hx h1 q1 e2 _ u73 rfl (by rw [l2];exact iEl) (h _ i2)
theorem qqv (hR : RV w n 105 (fun u=>isW u x y z t)) (p : Operand) (ho : o.op = .load 101 p) (hx : ev p = .pointer (some ⟨n,8,none⟩)) (h : ∀ u,isE u z→R u w) : qak Tryz.prog R ((execOp ev o).run Tryz.prog w):=by
 obtain ⟨cs,h1,h2⟩:=hR
 obtain ⟨p1,q1,r1,s1,l1,l2,l3,l4,e1,e2,e3,e4,i1,i2,i3,i4⟩:=qgm h2
 exact qa2 _ p ho n 8 hx h1 r1 e3 _ u73 rfl (by rw [l3];exact iEl) (h _ i3)
theorem ld_Wt (hR : RV w n 105 (fun u=>isW u x y z t)) (p : Operand) (ho : o.op = .load 101 p) (hx : ev p = .pointer (some ⟨n,12,none⟩)) (h : ∀ u,isE u t→R u w) : qak Tryz.prog R ((execOp ev o).run Tryz.prog w):=by
 obtain ⟨cs,h1,h2⟩:=hR
 obtain ⟨p1,q1,r1,s1,l1,l2,l3,l4,e1,e2,e3,e4,i1,i2,i3,i4⟩:=qgm h2
 exact qa2 _ p ho n 12 hx h1 s1 e4 _ u73 rfl (by rw [l4];exact iEl) (h _ i4)
theorem ld_B (hR : RV w n 22 (fun u=>u = .agg (qab f))) (p : Operand) (ho : o.op = .load 22 p) (hx : ev p = .pointer (some ⟨n,0,none⟩)) (h : ∀ u,u = .agg (qab f)→R u w) : qak Tryz.prog R ((execOp ev o).run Tryz.prog w):=by
 obtain ⟨cs,h1,h2⟩:=hR
 exact qci _ p ho n hx h1 _ u22 rfl (by rw [qgb h2];simpa using i22) (h _ h2)
theorem ld_P (hR : RV w n 49 (fun u=>u = .agg (pc f g))) (p : Operand) (ho : o.op = .load 49 p) (hx : ev p = .pointer (some ⟨n,0,none⟩)) (h : ∀ u,u = .agg (pc f g)→R u w) : qak Tryz.prog R ((execOp ev o).run Tryz.prog w):=by
 obtain ⟨cs,h1,h2⟩:=hR
 obtain ⟨fs,hu⟩:=uPt
 exact qci _ p ho n hx h1 _ hu rfl (by rw [qbz h2,qa1];exact iPt) (h _ h2)
theorem qma (hR : RV w n 49 (fun u=>u = .agg (pc f g))) (p : Operand) (ho : o.op = .load 22 p) (hx : ev p = .pointer (some ⟨n,0,none⟩)) (h : ∀ u,u = .agg (qab f)→R u w) : qak Tryz.prog R ((execOp ev o).run Tryz.prog w):=by
 obtain ⟨cs,h1,h2⟩:=hR
 rw [qbz h2] at h1
 exact qa2 _ p ho n 0 hx h1 (qab f).toList (pc_0 f g) _ u22 rfl (by simpa using i22) (h _ (by rw [Array.toArray_toList]))
theorem ql9 (hR : RV w n 49 (fun u=>u = .agg (pc f g))) (p : Operand) (ho : o.op = .load 22 p) (hx : ev p = .pointer (some ⟨n,32,none⟩)) (h : ∀ u,u = .agg (qab g)→R u w) : qak Tryz.prog R ((execOp ev o).run Tryz.prog w):=by
 obtain ⟨cs,h1,h2⟩:=hR
 rw [qbz h2] at h1
 exact qa2 _ p ho n 32 hx h1 (qab g).toList (pc_32 f g) _ u22 rfl (by simpa using i22) (h _ (by rw [Array.toArray_toList]))
theorem st_E {cs : List Value} (hR : Row w n 101 cs) (hl : cs.length = 4) (p q : Operand) (ho : o.op = .store 101 p q) (hx : ev p = .pointer (some ⟨n,0,none⟩)) (hy : isE (ev q) x)
  (h : ∀ w' cs',Row w' n 101 cs'→isE (.agg (List.toArray cs')) x→Keep [n] w w'→R undef w') : qak Tryz.prog R ((execOp ev o).run Tryz.prog w):=by
 obtain ⟨c,h1,h2,h3,h4⟩:=qq0 hy
 exact qbx _ p q ho n c hx h1 hR (by rw [h2];exact iEl) (by rw [h2];exact hl) h3 fun w' hr hk=>h w' _ hr h4 hk
theorem st_W {cs : List Value} (hR : Row w n 105 cs) (hl : cs.length = 16) (p q : Operand) (ho : o.op = .store 105 p q) (hx : ev p = .pointer (some ⟨n,0,none⟩)) (hy : isW (ev q) x y z t)
  (h : ∀ w' cs',Row w' n 105 cs'→isW (.agg (List.toArray cs')) x y z t→Keep [n] w w'→R undef w') : qak Tryz.prog R ((execOp ev o).run Tryz.prog w):=by
 obtain ⟨c,h1,h2,h3,h4⟩:=qeh hy
 exact qbx _ p q ho n c hx h1 hR (by rw [h2];exact iWd) (by rw [h2];exact hl) h3 fun w' hr hk=>h w' _ hr h4 hk
theorem st_B {cs : List Value} (hR : Row w n 22 cs) (hl : cs.length = 32) (p q : Operand) (ho : o.op = .store 22 p q) (hx : ev p = .pointer (some ⟨n,0,none⟩)) (hy : ev q = .agg (qab f))
  (h : ∀ w' cs',Row w' n 22 cs'→(.agg (List.toArray cs') : Value) = .agg (qab f)→Keep [n] w w'→R undef w') : qak Tryz.prog R ((execOp ev o).run Tryz.prog w) :=
 qbx _ p q ho n (qab f) hx hy hR (by rw [qam];exact i22) (by rw [qam];exact hl) (qcu f) fun w' hr hk=>h w' _ hr (by rw [Array.toArray_toList]) hk
theorem st_P {cs : List Value} (hR : Row w n 49 cs) (hl : cs.length = 64) (p q : Operand) (ho : o.op = .store 49 p q) (hx : ev p = .pointer (some ⟨n,0,none⟩)) (hy : ev q = .agg (pc f g))
  (h : ∀ w' cs',Row w' n 49 cs'→(.agg (List.toArray cs') : Value) = .agg (pc f g)→Keep [n] w w'→R undef w') : qak Tryz.prog R ((execOp ev o).run Tryz.prog w) :=
 qbx _ p q ho n (pc f g) hx hy hR (by rw [qb4];exact iPt) (by rw [qb4];exact hl) (qkk f g) fun w' hr hk=>h w' _ hr (by rw [Array.toArray_toList]) hk
end
end Go.Proofs.YtgeihelkkhjjaaaGreatDoor
end
end
