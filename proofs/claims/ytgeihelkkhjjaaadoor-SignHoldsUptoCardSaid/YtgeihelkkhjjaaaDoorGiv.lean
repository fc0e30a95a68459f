/-
  Texts of the lemmas below the claim, put together: RefU RefV Inn Err Giv.
-/
import Derived.Test.YtgeihelkkhjjaaaDoorDec
import Derived.Test.YtgeihelkkhjjaaaDoorEC
section
/-
  The document's answer of layer 7: the base point.
-/
set_option linter.unusedSimpArgs false
set_option linter.unusedVariables false
namespace Go.Cv
open Go.RowKit Go.Cv.Pr Go.Cv.Grp
end Go.Cv
namespace Go.Proofs.YtgeihelkkhjjaaaDoor
open Go.RowKit Go.Cv Go.Cv.Pr Go.Cv.Grp Go.Cv.Dig
set_option maxHeartbeats 8000000
set_option maxRecDepth 20000
end Go.Proofs.YtgeihelkkhjjaaaDoor
end
section
/-
  The document's answer of layer 7: points over a denominator; the sum.
-/
set_option linter.unusedSimpArgs false
set_option linter.unusedVariables false
namespace Go.Cv.Grp
theorem rp_x {n : Nat} [NeZero n] (d x y u v Z W a : Fin n) (h : a * (1 + d * (x * u) * (y * v)) = x * v + u * y) :
    ((Z * W) * ((Z * W) * (Z * W) - d * ((x * Z) * (u * W) * ((y * Z) * (v * W))))) * ((x * Z) * (v * W) + (u * W) * (y * Z)) =
      a * (((Z * W) * (Z * W) - d * ((x * Z) * (u * W) * ((y * Z) * (v * W)))) * ((Z * W) * (Z * W) + d * ((x * Z) * (u * W) * ((y * Z) * (v * W))))) := by
  have e : (x * Z) * (v * W) + (u * W) * (y * Z) = (Z * W) * (x * v + u * y) := by clear h; grind
  rw [e, ← h]
  clear h e
  grind
theorem rp_y {n : Nat} [NeZero n] (d x y u v Z W a : Fin n) (h : a * (1 - d * (x * u) * (y * v)) = y * v + x * u) :
    ((Z * W) * ((Z * W) * (Z * W) + d * ((x * Z) * (u * W) * ((y * Z) * (v * W))))) * ((y * Z) * (v * W) + (x * Z) * (u * W)) =
      a * (((Z * W) * (Z * W) - d * ((x * Z) * (u * W) * ((y * Z) * (v * W)))) * ((Z * W) * (Z * W) + d * ((x * Z) * (u * W) * ((y * Z) * (v * W))))) := by
  have e : (y * Z) * (v * W) + (x * Z) * (u * W) = (Z * W) * (y * v + x * u) := by clear h; grind
  rw [e, ← h]
  clear h e
  grind
theorem rp_f {n : Nat} [NeZero n] (d x y u v Z W : Fin n) : (Z * W) * (Z * W) - d * ((x * Z) * (u * W) * ((y * Z) * (v * W))) = (Z * W) * (Z * W) * (1 - d * (x * u) * (y * v)) := by grind
theorem rp_g {n : Nat} [NeZero n] (d x y u v Z W : Fin n) : (Z * W) * (Z * W) + d * ((x * Z) * (u * W) * ((y * Z) * (v * W))) = (Z * W) * (Z * W) * (1 + d * (x * u) * (y * v)) := by grind
end Go.Cv.Grp
namespace Go.Cv
open Go.RowKit Go.Cv.Pr Go.Cv.Grp
/-- Three numbers that stand for a point: X / Z and Y / Z. -/
structure R3 (X Y Z : F7) (P : P7) : Prop where
  x : X = P.x * Z
  y : Y = P.y * Z
  z : Z ≠ 0
theorem R3.add {X Y Z U V W : F7} {P Q : P7} (h : R3 X Y Z P) (k : R3 U V W Q) :
    R3 (((Z * W) * ((Z * W) * (Z * W) - C7.d * (X * U * (Y * V)))) * (X * V + U * Y)) (((Z * W) * ((Z * W) * (Z * W) + C7.d * (X * U * (Y * V)))) * (Y * V + X * U))
      (((Z * W) * (Z * W) - C7.d * (X * U * (Y * V))) * ((Z * W) * (Z * W) + C7.d * (X * U * (Y * V)))) (P.add Q) := by
  obtain ⟨rfl, rfl, hz⟩ := h
  obtain ⟨rfl, rfl, hw⟩ := k
  have h1 := C7.ax_is P.on Q.on
  have h2 := C7.ay_is P.on Q.on
  have n1 := C7.den1 P.on Q.on
  have n2 := C7.den2 P.on Q.on
  refine ⟨rp_x _ _ _ _ _ _ _ _ h1, rp_y _ _ _ _ _ _ _ _ h2, ?_⟩
  rw [rp_f, rp_g]
  have hzw := C7.mul_ne hz hw
  exact C7.mul_ne (C7.mul_ne (C7.mul_ne hzw hzw) n2) (C7.mul_ne (C7.mul_ne hzw hzw) n1)
theorem R3.of (P : P7) : R3 P.x P.y 1 P := ⟨by grind, by grind, C7.one⟩
theorem R3.zero : R3 0 1 1 (Pt.zero C7) := R3.of (Pt.zero C7)
theorem out_ring {n : Nat} [NeZero n] (x Z i : Fin n) (h : Z * i = 1) : x * Z * i = x := by grind
theorem R3.out {X Y Z : F7} {P : P7} (h : R3 X Y Z P) : X * fiv Z = P.x ∧ Y * fiv Z = P.y := by
  have h1 := mul_fiv Z h.z
  rw [h.x, h.y]
  exact ⟨out_ring _ _ _ h1, out_ring _ _ _ h1⟩
end Go.Cv
namespace Go.Proofs.YtgeihelkkhjjaaaDoor
open Go.RowKit Go.Cv Go.Cv.Pr Go.Cv.Grp Go.Cv.Dig
/-- A point of the answer. -/
def NP (w : World) (v : Value) (P : P7) : Prop := ∃ a b c X Y Z, v = .agg #[a, b, c] ∧ NF w a X ∧ NF w b Y ∧ NF w c Z ∧ R3 X Y Z P
theorem NP.ext {w w' : World} {v : Value} {P : P7} (h : NP w v P) (hx : Ext w w') : NP w' v P := by
  obtain ⟨a, b, c, X, Y, Z, rfl, h1, h2, h3, h4⟩ := h
  exact ⟨a, b, c, X, Y, Z, rfl, h1.ext hx, h2.ext hx, h3.ext hx, h4⟩
/-- Three cells of a block. -/
def C3 (w : World) (n : Nat) (a b c : Value) : Prop := w.cell? ⟨n, 0, none⟩ = some a ∧ w.cell? ⟨n, 1, none⟩ = some b ∧ w.cell? ⟨n, 2, none⟩ = some c
theorem C3.ext {w w' : World} {n : Nat} {a b c : Value} (h : C3 w n a b c) (hx : Ext w w') : C3 w' n a b c := ⟨hx.cell h.1, hx.cell h.2.1, hx.cell h.2.2⟩
theorem C3.new (w : World) (a b c : Value) (t : TypeId) : C3 (w.alloc (.cells #[a, b, c] t)) w.heap.size a b c := by
  have h := Row.alloc w [a, b, c] t
  exact ⟨h.cell (i := 0) (by simp), h.cell (i := 1) (by simp), h.cell (i := 2) (by simp)⟩
end Go.Proofs.YtgeihelkkhjjaaaDoor
end
section
/-
  Regions over numbers of the field in slices, and points of the answer.
-/
set_option linter.unusedSimpArgs false
set_option linter.unusedVariables false
namespace Go.Cv
open Go.RowKit
theorem calls_eq {P : Program} {f : FuncId} {args args' : Array Value} {w : World} {Q : Ending → World → Prop} (h : Calls P f args w Q) (e : args' = args) : Calls P f args' w Q := e ▸ h
/-- No number of 64 bits. -/
def noI (v : Value) : Bool := match v with | .int .i64 _ => false | _ => true
def NoI (w : World) (n : Nat) : Prop := ∃ T cs, Row w n T cs ∧ ∀ c ∈ cs, noI c = true
theorem NoI.of {w : World} {n : Nat} {T : TypeId} {cs : List Value} (h : Row w n T cs) (hn : ∀ c ∈ cs, noI c = true) : NoI w n := ⟨T, cs, h, hn⟩
theorem noI_cell {w : World} {p : Addr} {v : Value} (h : NoI w p.block) (hc : w.cell? p = some v) : noI v = true := by
  obtain ⟨T, cs, hR, hn⟩ := h
  unfold World.cell? at hc
  unfold Row at hR
  rw [hR] at hc
  simp only at hc
  split at hc
  · cases hc
  · exact hn v (by
      have := List.mem_of_getElem? (l := cs) (i := p.off) (by simpa using hc)
      exact this)
end Go.Cv
namespace Go.Proofs.YtgeihelkkhjjaaaDoor
open Go.RowKit Go.Cv Go.Cv.Pr Go.Cv.Grp Go.Cv.Dig
theorem NF.slice {w : World} {v : Value} {x : F7} (h : NF w v x) : noI v = true := by
  obtain ⟨A, n, c, l, rfl, _⟩ := h
  rfl
theorem NF.keep {bs : List Nat} {w w' : World} {v : Value} {x : F7} (h : NF w v x) (hk : Keep bs w w') (hn : ∀ b ∈ bs, NoI w b) : NF w' v x := by
  obtain ⟨A, n, c, l, rfl, h1, h2, hr, h3⟩ := h
  refine ⟨A, n, c, l, rfl, h1, h2, ?_, h3⟩
  intro k v hv
  obtain ⟨ad, e, hc⟩ := hr k v hv
  refine ⟨ad, e, hk.cell hc ?_⟩
  intro hm
  have h5 := noI_cell (hn _ hm) hc
  have h6 := List.mem_of_getElem? hv
  simp only [List.mem_map] at h6
  obtain ⟨m, -, rfl⟩ := h6
  cases h5
theorem NP.keep {bs : List Nat} {w w' : World} {v : Value} {P : P7} (h : NP w v P) (hk : Keep bs w w') (hn : ∀ b ∈ bs, NoI w b) : NP w' v P := by
  obtain ⟨a, b, c, X, Y, Z, rfl, h1, h2, h3, h4⟩ := h
  exact ⟨a, b, c, X, Y, Z, rfl, h1.keep hk hn, h2.keep hk hn, h3.keep hk hn, h4⟩
theorem NP.cells {w : World} {cs : List Value} {P : P7} (h : NP w (.agg cs.toArray) P) : cs.length = 3 ∧ ∀ c ∈ cs, noI c = true := by
  obtain ⟨a, b, c, X, Y, Z, e, h1, h2, h3, h4⟩ := h
  injection e with e
  have := congrArg Array.toList e
  simp only at this
  subst this
  refine ⟨rfl, ?_⟩
  simp [h1.slice, h2.slice, h3.slice]
/-- The numbers and points that a region's operations left. -/
structure NumsOk (NV : Nat → Option F7) (PV : Nat → Option P7) (L : Nat → Bool) (v : Nat → Value) (w : World) : Prop where
  n : ∀ j x, L j = true → NV j = some x → NF w (v j) x
  p : ∀ j x, L j = true → PV j = some x → NP w (v j) x
theorem NumsOk.step {NV : Nat → Option F7} {PV : Nat → Option P7} {L : Nat → Bool} {v : Nat → Value} {w w' : World} {i : Nat} {u : Value} (h : NumsOk NV PV L v w) (hp : ∀ u x, NF w u x → NF w' u x) (hq : ∀ u x, NP w u x → NP w' u x)
    (h1 : ∀ x, NV i = some x → NF w' u x) (h2 : ∀ x, PV i = some x → NP w' u x) : NumsOk NV PV (setB L i) (setV v i u) w' := by
  refine ⟨fun j x hj hx => ?_, fun j x hj hx => ?_⟩
  · by_cases hji : j = i
    · subst hji; rw [setV_self]; exact h1 x hx
    · rw [setV_ne hji]; rw [setB_ne hji] at hj; exact hp _ _ (h.n j x hj hx)
  · by_cases hji : j = i
    · subst hji; rw [setV_self]; exact h2 x hx
    · rw [setV_ne hji]; rw [setB_ne hji] at hj; exact hq _ _ (h.p j x hj hx)
structure InvN (ns : List Nat) (VF : Nat → Value → Prop) (NV : Nat → Option F7) (PV : Nat → Option P7) (trs : List Trk) (w0 : World) (L : Nat → Bool) (v : Nat → Value) (w : World) : Prop where
  inv : Inv ns VF trs w0 L v w
  num : NumsOk NV PV L v w
section
variable {P : Program} {ns : List Nat} {VF : Nat → Value → Prop} {NV : Nat → Option F7} {PV : Nat → Option P7} {trs : List Trk} {w0 : World} {L : Nat → Bool} {v : Nat → Value} {w : World} {i : Nat} {r : Result Next}
theorem InvN.of (h : Inv ns VF trs w0 (fun _ => false) (fun _ => undef) w) : InvN ns VF NV PV trs w0 (fun _ => false) (fun _ => undef) w := ⟨h, ⟨fun _ _ h _ => (by cases h), fun _ _ h _ => (by cases h)⟩⟩
theorem InvN.val_step (hI : InvN ns VF NV PV trs w0 L v w) (hL : L i = false) (hna : ∀ t ∈ trs, t.al ≠ some i ∧ t.st ≠ some i) (h : Gives P (fun u w' => VF i u ∧ (∀ x, NV i = some x → NF w' u x) ∧ (∀ x, PV i = some x → NP w' u x) ∧ Ext w w') r) :
    Gives P (fun u w' => InvN ns VF NV PV trs w0 (setB L i) (setV v i u) w') r :=
  h.mono fun u w' ⟨h1, h2, h3, hx⟩ => ⟨Inv.val_step (P := P) (r := .ok (.value u) w') hI.inv hL hna ⟨h1, hx⟩, hI.num.step (fun _ _ h => h.ext hx) (fun _ _ h => h.ext hx) h2 h3⟩
theorem InvN.alloc_step (hok : TrsOk ns w0.heap.size trs) (hI : InvN ns VF NV PV trs w0 L v w) (hL : L i = false) (t : Trk) (ht : t ∈ trs) (hal : t.al = some i) (hnst : ∀ s ∈ trs, s.st ≠ some i) (hst : ∀ s, t.st = some s → L s = false) (hN : NV i = none) (hP : PV i = none)
    (h : Gives P (fun u w' => VF i u ∧ u = .pointer (some ⟨w.heap.size, 0, none⟩) ∧ ∃ cs, w' = w.alloc (.cells (List.toArray cs) t.T) ∧ t.old cs) r) :
    Gives P (fun u w' => InvN ns VF NV PV trs w0 (setB L i) (setV v i u) w') r :=
  h.mono fun u w' h1 => by
    obtain ⟨cs, hw, -⟩ := h1.2.2
    have hx : Ext w w' := by rw [hw]; exact ext_alloc _ _
    exact ⟨Inv.alloc_step (P := P) (r := .ok (.value u) w') hok hI.inv hL t ht hal hnst hst h1, hI.num.step (fun _ _ h => h.ext hx) (fun _ _ h => h.ext hx) (fun x hx => by rw [hN] at hx; cases hx) (fun x hx => by rw [hP] at hx; cases hx)⟩
theorem InvN.store_step (hok : TrsOk ns w0.heap.size trs) (hI : InvN ns VF NV PV trs w0 L v w) (hL : L i = false) (t : Trk) (ht : t ∈ trs) (hst : t.st = some i) (hnal : ∀ s ∈ trs, s.al ≠ some i) (hth : t.there L) (hN : NV i = none) (hP : PV i = none) (hno : ∀ cs, t.old cs → ∀ c ∈ cs, noI c = true)
    (h : ∀ n cs, t.blk v n → Row w n t.T cs → t.old cs → Gives P (fun u w' => VF i u ∧ Keep [n] w w' ∧ ∃ cs', Row w' n t.T cs' ∧ t.new cs') r) :
    Gives P (fun u w' => InvN ns VF NV PV trs w0 (setB L i) (setV v i u) w') r := by
  obtain ⟨n, cs, hb, hn, hR, _, hold⟩ := hI.inv.trk t ht hth
  have ho := hold fun s hs => by rw [hst] at hs; injection hs with hs; rw [← hs]; exact hL
  refine (h n cs hb hR ho).mono fun u w' h1 => ?_
  have hk := h1.2.1
  have hnn : ∀ b ∈ [n], NoI w b := fun b hb => by
    rw [List.mem_singleton.1 hb]
    exact NoI.of hR (hno cs ho)
  refine ⟨Inv.store_step (P := P) (r := .ok (.value u) w') hok hI.inv hL t ht hst hnal hth (fun n' cs' hb' hR' ho' => ?_), hI.num.step (fun _ _ h => h.keep hk hnn) (fun _ _ h => h.keep hk hnn) (fun x hx => by rw [hN] at hx; cases hx) (fun x hx => by rw [hP] at hx; cases hx)⟩
  have e : n' = n := by
    unfold Trk.blk at hb hb'
    cases hal : t.al with
    | none => rw [hal] at hb hb'; simp only at hb hb'; omega
    | some k =>
      rw [hal] at hb hb'; simp only at hb hb'
      rw [hb] at hb'
      injection hb' with hb'
      injection hb' with hb'
      injection hb' with hb'
      exact hb'.symm
  subst e
  exact h1
theorem InvN.skip (P : Program) (hI : InvN ns VF NV PV trs w0 L v w) (hL : L i = false) (hna : ∀ t ∈ trs, t.al ≠ some i ∧ t.st ≠ some i) (h : VF i undef) (hN : NV i = none) (hP : PV i = none) : InvN ns VF NV PV trs w0 (setB L i) (setV v i undef) w :=
  InvN.val_step (P := P) (r := .ok (.value undef) w) hI hL hna ⟨h, fun x hx => (by rw [hN] at hx; cases hx), fun x hx => (by rw [hP] at hx; cases hx), Ext.refl _⟩
end
section
variable {w : World} {o : Oper} {ev : Operand → Value} {R : Value → World → Prop} {n : Nat} {X Y Z : F7}
end
end Go.Proofs.YtgeihelkkhjjaaaDoor
end
section
/-
  Errors compared.
-/
set_option linter.unusedSimpArgs false
set_option linter.unusedVariables false
namespace Go.Proofs.YtgeihelkkhjjaaaDoor
open Go.RowKit Go.Cv
theorem codeinfo : (Tryd.prog.info? 75).map (·.comparable) = some true := by kernel_rfl
@[go_sem] theorem eql_err (a b : Int) (w : World) : (binOp .eql 43 (.iface 75 (.int .i64 a)) (.iface 75 (.int .i64 b))).run Tryd.prog w = .ok (.bool (a == b)) w :=
  run_eql_iface_int' w a b Tryd.underlying43 Tryd.underlying75 codeinfo
end Go.Proofs.YtgeihelkkhjjaaaDoor
end
section
/-
  What single operations of a region give, by the operands' values alone.
-/
set_option linter.unusedSimpArgs false
set_option linter.unusedVariables false
set_option maxRecDepth 20000
namespace Go.Proofs.YtgeihelkkhjjaaaDoor
open Go.RowKit Go.Cv Go.Cv.Pr Go.Cv.Grp
section
variable {w : World} {o : Oper} {ev : Operand → Value} {R : Value → World → Prop}
theorem give_pick_t (c a b : Operand) (ho : o.op = .pick c a b) (hc : ev c = .bool true) (h : R (ev a) w) : Gives Tryd.prog R ((execOp ev o).run Tryd.prog w) := by
  unfold execOp
  simp [ho, hc, go_sem]
  exact h
theorem give_pick_f (c a b : Operand) (ho : o.op = .pick c a b) (hc : ev c = .bool false) (h : R (ev b) w) : Gives Tryd.prog R ((execOp ev o).run Tryd.prog w) := by
  unfold execOp
  simp [ho, hc, go_sem]
  exact h
theorem give_nil_eq (a : Operand) (t : TypeId) (ho : o.op = .binOp .eql 43 a (.const .nilIface) t) (ha : ev a = .nilIface) (hb : ev (.const .nilIface) = .nilIface) (h : R (.bool true) w) : Gives Tryd.prog R ((execOp ev o).run Tryd.prog w) := by
  unfold execOp
  simp [ho, ha, hb, eqGuard, go_sem]
  exact h
theorem give_nil_ne (a : Operand) (t : TypeId) (ho : o.op = .binOp .neq 43 a (.const .nilIface) t) (ha : ev a = .nilIface) (hb : ev (.const .nilIface) = .nilIface) (h : R (.bool false) w) : Gives Tryd.prog R ((execOp ev o).run Tryd.prog w) := by
  unfold execOp
  simp [ho, ha, hb, eqGuard, go_sem]
  exact h
theorem give_not (a : Operand) (x : Bool) (ho : o.op = .unOp .not 4 a) (ha : ev a = .bool x) (h : R (.bool !x) w) : Gives Tryd.prog R ((execOp ev o).run Tryd.prog w) := by
  unfold execOp
  simp [ho, ha, go_sem]
  exact h
theorem give_ext (a : Operand) (k : Nat) (cs : Array Value) (ho : o.op = .extract a k) (ha : ev a = .tuple cs) (u : Value) (hu : cs[k]? = some u) (h : R u w) : Gives Tryd.prog R ((execOp ev o).run Tryd.prog w) := by
  unfold execOp
  simp [ho, ha, hu, go_sem, Instr.extract]
  exact h
theorem give_err_nil_eq (a : Operand) (t : TypeId) (ho : o.op = .binOp .eql 43 a (.const .nilIface) t) (ha : ev a = errPoint) (hb : ev (.const .nilIface) = .nilIface) (h : R (.bool false) w) : Gives Tryd.prog R ((execOp ev o).run Tryd.prog w) := by
  unfold errPoint at ha
  unfold execOp
  simp only [ho, ha, hb]
  go_simp
  exact h
theorem give_err_nil_ne (a : Operand) (t : TypeId) (ho : o.op = .binOp .neq 43 a (.const .nilIface) t) (ha : ev a = errPoint) (hb : ev (.const .nilIface) = .nilIface) (h : R (.bool true) w) : Gives Tryd.prog R ((execOp ev o).run Tryd.prog w) := by
  unfold errPoint at ha
  unfold execOp
  simp only [ho, ha, hb]
  go_simp
  exact h
end
end Go.Proofs.YtgeihelkkhjjaaaDoor
end
