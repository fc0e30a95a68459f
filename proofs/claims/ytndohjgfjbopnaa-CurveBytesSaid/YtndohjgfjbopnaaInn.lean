/-
  Regions over numbers of the field in slices, and points of the answer.
-/
import Derived.Test.YtndohjgfjbopnaaRefV
set_option linter.unusedSimpArgs false
set_option linter.unusedVariables false
namespace Go.Cv
open Go.RowKit
theorem calls_eq {P : Program} {f : FuncId} {args args' : Array Value} {w : World} {Q : Ending → World → Prop} (h : Calls P f args w Q) (e : args' = args) : Calls P f args' w Q := e ▸ h
/-- No number of 64 bits. -/
def noI (v : Value) : Bool := match v with | .int .i64 _ => false | _ => true
def NoI (w : World) (n : Nat) : Prop := ∃ T cs, Row w n T cs ∧ ∀ c ∈ cs, noI c = true
theorem NoI.of {w : World} {n : Nat} {T : TypeId} {cs : List Value} (h : Row w n T cs) (hn : ∀ c ∈ cs, noI c = true) : NoI w n := ⟨T, cs, h, hn⟩
theorem noI_cell {w : World} {p : Addr} {v : Value} (h : NoI w p.block) (hc : w.cell? p = some v) : noI v = true := by
  obtain ⟨T, cs, hR, hn⟩ := h
  unfold World.cell? at hc
  unfold Row at hR
  rw [hR] at hc
  simp only at hc
  split at hc
  · cases hc
  · exact hn v (by
      have := List.mem_of_getElem? (l := cs) (i := p.off) (by simpa using hc)
      exact this)
theorem noI_pc (f g : Nat → UInt8) : ∀ c ∈ pcL f g, noI c = true := by
  intro c hc
  unfold pcL at hc
  rcases List.mem_append.1 hc with h | h
  · rw [bcells_list] at h
    simp at h
    obtain ⟨x, -, rfl⟩ := h
    rfl
  · rw [bcells_list] at h
    simp at h
    obtain ⟨x, -, rfl⟩ := h
    rfl
theorem noI_b (f : Nat → UInt8) : ∀ c ∈ (bcells f).toList, noI c = true := by
  intro c hc
  rw [bcells_list] at hc
  simp at hc
  obtain ⟨x, -, rfl⟩ := hc
  rfl
theorem RV.noP {w : World} {n : Nat} {T : TypeId} {f g : Nat → UInt8} (h : RV w n T (fun u => u = .agg (pc f g))) : NoI w n := by
  obtain ⟨cs, h1, h2⟩ := h
  rw [pcL_of h2] at h1
  exact NoI.of h1 (noI_pc f g)
theorem RV.noB {w : World} {n : Nat} {T : TypeId} {f : Nat → UInt8} (h : RV w n T (fun u => u = .agg (bcells f))) : NoI w n := by
  obtain ⟨cs, h1, h2⟩ := h
  rw [bL_of h2] at h1
  exact NoI.of h1 (noI_b f)
end Go.Cv
namespace Go.Proofs.Ytndohjgfjbopnaa
open Go.RowKit Go.Cv Go.Cv.Pr Go.Cv.Grp Go.Cv.Dig
theorem NF.slice {w : World} {v : Value} {x : F7} (h : NF w v x) : noI v = true := by
  obtain ⟨A, n, c, l, rfl, _⟩ := h
  rfl
theorem NF.keep {bs : List Nat} {w w' : World} {v : Value} {x : F7} (h : NF w v x) (hk : Keep bs w w') (hn : ∀ b ∈ bs, NoI w b) : NF w' v x := by
  obtain ⟨A, n, c, l, rfl, h1, h2, hr, h3⟩ := h
  refine ⟨A, n, c, l, rfl, h1, h2, ?_, h3⟩
  intro k v hv
  obtain ⟨ad, e, hc⟩ := hr k v hv
  refine ⟨ad, e, hk.cell hc ?_⟩
  intro hm
  have h5 := noI_cell (hn _ hm) hc
  have h6 := List.mem_of_getElem? hv
  simp only [List.mem_map] at h6
  obtain ⟨m, -, rfl⟩ := h6
  cases h5
theorem NP.keep {bs : List Nat} {w w' : World} {v : Value} {P : P7} (h : NP w v P) (hk : Keep bs w w') (hn : ∀ b ∈ bs, NoI w b) : NP w' v P := by
  obtain ⟨a, b, c, X, Y, Z, rfl, h1, h2, h3, h4⟩ := h
  exact ⟨a, b, c, X, Y, Z, rfl, h1.keep hk hn, h2.keep hk hn, h3.keep hk hn, h4⟩
/-- A row with a point of the answer. -/
def RN (w : World) (n : Nat) (P : P7) : Prop := ∃ cs, Row w n 60 cs ∧ NP w (.agg cs.toArray) P
theorem NP.cells {w : World} {cs : List Value} {P : P7} (h : NP w (.agg cs.toArray) P) : cs.length = 3 ∧ ∀ c ∈ cs, noI c = true := by
  obtain ⟨a, b, c, X, Y, Z, e, h1, h2, h3, h4⟩ := h
  injection e with e
  have := congrArg Array.toList e
  simp only at this
  subst this
  refine ⟨rfl, ?_⟩
  simp [h1.slice, h2.slice, h3.slice]
theorem RN.noI {w : World} {n : Nat} {P : P7} (h : RN w n P) : NoI w n := by
  obtain ⟨cs, h1, h2⟩ := h
  exact NoI.of h1 h2.cells.2
theorem RN.keep {bs : List Nat} {w w' : World} {n : Nat} {P : P7} (h : RN w n P) (hk : Keep bs w w') (hn : ∀ b ∈ bs, NoI w b) (hb : n ∉ bs) : RN w' n P := by
  obtain ⟨cs, h1, h2⟩ := h
  exact ⟨cs, h1.keep hk hb, h2.keep hk hn⟩
theorem RN.ext {w w' : World} {n : Nat} {P : P7} (h : RN w n P) (hx : Ext w w') : RN w' n P := h.keep (Keep.of_ext (bs := []) hx) (by simp) (by simp)
theorem RN.lt {w : World} {n : Nat} {P : P7} (h : RN w n P) : n < w.heap.size := by
  obtain ⟨cs, h1, h2⟩ := h
  exact h1.lt
/-- A row of three numbers. -/
def R3w (w : World) (n : Nat) (X Y Z : F7) : Prop := ∃ a b c, Row w n 60 [a, b, c] ∧ NF w a X ∧ NF w b Y ∧ NF w c Z
theorem R3w.noI {w : World} {n : Nat} {X Y Z : F7} (h : R3w w n X Y Z) : NoI w n := by
  obtain ⟨a, b, c, h1, h2, h3, h4⟩ := h
  exact NoI.of h1 (by simp [h2.slice, h3.slice, h4.slice])
theorem R3w.keep {bs : List Nat} {w w' : World} {n : Nat} {X Y Z : F7} (h : R3w w n X Y Z) (hk : Keep bs w w') (hn : ∀ b ∈ bs, NoI w b) (hb : n ∉ bs) : R3w w' n X Y Z := by
  obtain ⟨a, b, c, h1, h2, h3, h4⟩ := h
  exact ⟨a, b, c, h1.keep hk hb, h2.keep hk hn, h3.keep hk hn, h4.keep hk hn⟩
theorem R3w.ext {w w' : World} {n : Nat} {X Y Z : F7} (h : R3w w n X Y Z) (hx : Ext w w') : R3w w' n X Y Z := h.keep (Keep.of_ext (bs := []) hx) (by simp) (by simp)
theorem R3w.lt {w : World} {n : Nat} {X Y Z : F7} (h : R3w w n X Y Z) : n < w.heap.size := by
  obtain ⟨a, b, c, h1, h2, h3, h4⟩ := h
  exact h1.lt
/-- The numbers and points that a region's operations left. -/
structure NumsOk (NV : Nat → Option F7) (PV : Nat → Option P7) (L : Nat → Bool) (v : Nat → Value) (w : World) : Prop where
  n : ∀ j x, L j = true → NV j = some x → NF w (v j) x
  p : ∀ j x, L j = true → PV j = some x → NP w (v j) x
theorem NumsOk.step {NV : Nat → Option F7} {PV : Nat → Option P7} {L : Nat → Bool} {v : Nat → Value} {w w' : World} {i : Nat} {u : Value} (h : NumsOk NV PV L v w) (hp : ∀ u x, NF w u x → NF w' u x) (hq : ∀ u x, NP w u x → NP w' u x)
    (h1 : ∀ x, NV i = some x → NF w' u x) (h2 : ∀ x, PV i = some x → NP w' u x) : NumsOk NV PV (setB L i) (setV v i u) w' := by
  refine ⟨fun j x hj hx => ?_, fun j x hj hx => ?_⟩
  · by_cases hji : j = i
    · subst hji; rw [setV_self]; exact h1 x hx
    · rw [setV_ne hji]; rw [setB_ne hji] at hj; exact hp _ _ (h.n j x hj hx)
  · by_cases hji : j = i
    · subst hji; rw [setV_self]; exact h2 x hx
    · rw [setV_ne hji]; rw [setB_ne hji] at hj; exact hq _ _ (h.p j x hj hx)
structure InvN (ns : List Nat) (VF : Nat → Value → Prop) (NV : Nat → Option F7) (PV : Nat → Option P7) (trs : List Trk) (w0 : World) (L : Nat → Bool) (v : Nat → Value) (w : World) : Prop where
  inv : Inv ns VF trs w0 L v w
  num : NumsOk NV PV L v w
section
variable {P : Program} {ns : List Nat} {VF : Nat → Value → Prop} {NV : Nat → Option F7} {PV : Nat → Option P7} {trs : List Trk} {w0 : World} {L : Nat → Bool} {v : Nat → Value} {w : World} {i : Nat} {r : Result Next}
theorem InvN.of (h : Inv ns VF trs w0 (fun _ => false) (fun _ => undef) w) : InvN ns VF NV PV trs w0 (fun _ => false) (fun _ => undef) w := ⟨h, ⟨fun _ _ h _ => (by cases h), fun _ _ h _ => (by cases h)⟩⟩
theorem InvN.val_step (hI : InvN ns VF NV PV trs w0 L v w) (hL : L i = false) (hna : ∀ t ∈ trs, t.al ≠ some i ∧ t.st ≠ some i) (h : Gives P (fun u w' => VF i u ∧ (∀ x, NV i = some x → NF w' u x) ∧ (∀ x, PV i = some x → NP w' u x) ∧ Ext w w') r) :
    Gives P (fun u w' => InvN ns VF NV PV trs w0 (setB L i) (setV v i u) w') r :=
  h.mono fun u w' ⟨h1, h2, h3, hx⟩ => ⟨Inv.val_step (P := P) (r := .ok (.value u) w') hI.inv hL hna ⟨h1, hx⟩, hI.num.step (fun _ _ h => h.ext hx) (fun _ _ h => h.ext hx) h2 h3⟩
theorem InvN.val0 (hI : InvN ns VF NV PV trs w0 L v w) (hL : L i = false) (hna : ∀ t ∈ trs, t.al ≠ some i ∧ t.st ≠ some i) (hN : NV i = none) (hP : PV i = none) (h : Gives P (fun u w' => VF i u ∧ Ext w w') r) :
    Gives P (fun u w' => InvN ns VF NV PV trs w0 (setB L i) (setV v i u) w') r :=
  hI.val_step hL hna (h.mono fun u w' ⟨h1, hx⟩ => ⟨h1, fun x hx => (by rw [hN] at hx; cases hx), fun x hx => (by rw [hP] at hx; cases hx), hx⟩)
theorem InvN.numv (X : F7) (hI : InvN ns VF NV PV trs w0 L v w) (hL : L i = false) (hna : ∀ t ∈ trs, t.al ≠ some i ∧ t.st ≠ some i) (hN : NV i = some X) (hP : PV i = none) (hV : ∀ u, VF i u) (h : Gives P (fun u w' => NF w' u X ∧ Ext w w') r) :
    Gives P (fun u w' => InvN ns VF NV PV trs w0 (setB L i) (setV v i u) w') r :=
  hI.val_step hL hna (h.mono fun u w' ⟨h1, hx⟩ => ⟨hV u, fun x hx => (by rw [hN] at hx; injection hx with hx; rw [← hx]; exact h1), fun x hx => (by rw [hP] at hx; cases hx), hx⟩)
theorem InvN.ptv (X : P7) (hI : InvN ns VF NV PV trs w0 L v w) (hL : L i = false) (hna : ∀ t ∈ trs, t.al ≠ some i ∧ t.st ≠ some i) (hN : NV i = none) (hP : PV i = some X) (hV : ∀ u, VF i u) (h : Gives P (fun u w' => NP w' u X ∧ Ext w w') r) :
    Gives P (fun u w' => InvN ns VF NV PV trs w0 (setB L i) (setV v i u) w') r :=
  hI.val_step hL hna (h.mono fun u w' ⟨h1, hx⟩ => ⟨hV u, fun x hx => (by rw [hN] at hx; cases hx), fun x hx => (by rw [hP] at hx; injection hx with hx; rw [← hx]; exact h1), hx⟩)
theorem InvN.alloc_step (hok : TrsOk ns w0.heap.size trs) (hI : InvN ns VF NV PV trs w0 L v w) (hL : L i = false) (t : Trk) (ht : t ∈ trs) (hal : t.al = some i) (hnst : ∀ s ∈ trs, s.st ≠ some i) (hst : ∀ s, t.st = some s → L s = false) (hN : NV i = none) (hP : PV i = none)
    (h : Gives P (fun u w' => VF i u ∧ u = .pointer (some ⟨w.heap.size, 0, none⟩) ∧ ∃ cs, w' = w.alloc (.cells (List.toArray cs) t.T) ∧ t.old cs) r) :
    Gives P (fun u w' => InvN ns VF NV PV trs w0 (setB L i) (setV v i u) w') r :=
  h.mono fun u w' h1 => by
    obtain ⟨cs, hw, -⟩ := h1.2.2
    have hx : Ext w w' := by rw [hw]; exact ext_alloc _ _
    exact ⟨Inv.alloc_step (P := P) (r := .ok (.value u) w') hok hI.inv hL t ht hal hnst hst h1, hI.num.step (fun _ _ h => h.ext hx) (fun _ _ h => h.ext hx) (fun x hx => by rw [hN] at hx; cases hx) (fun x hx => by rw [hP] at hx; cases hx)⟩
theorem InvN.store_step (hok : TrsOk ns w0.heap.size trs) (hI : InvN ns VF NV PV trs w0 L v w) (hL : L i = false) (t : Trk) (ht : t ∈ trs) (hst : t.st = some i) (hnal : ∀ s ∈ trs, s.al ≠ some i) (hth : t.there L) (hN : NV i = none) (hP : PV i = none) (hno : ∀ cs, t.old cs → ∀ c ∈ cs, noI c = true)
    (h : ∀ n cs, t.blk v n → Row w n t.T cs → t.old cs → Gives P (fun u w' => VF i u ∧ Keep [n] w w' ∧ ∃ cs', Row w' n t.T cs' ∧ t.new cs') r) :
    Gives P (fun u w' => InvN ns VF NV PV trs w0 (setB L i) (setV v i u) w') r := by
  obtain ⟨n, cs, hb, hn, hR, _, hold⟩ := hI.inv.trk t ht hth
  have ho := hold fun s hs => by rw [hst] at hs; injection hs with hs; rw [← hs]; exact hL
  refine (h n cs hb hR ho).mono fun u w' h1 => ?_
  have hk := h1.2.1
  have hnn : ∀ b ∈ [n], NoI w b := fun b hb => by
    rw [List.mem_singleton.1 hb]
    exact NoI.of hR (hno cs ho)
  refine ⟨Inv.store_step (P := P) (r := .ok (.value u) w') hok hI.inv hL t ht hst hnal hth (fun n' cs' hb' hR' ho' => ?_), hI.num.step (fun _ _ h => h.keep hk hnn) (fun _ _ h => h.keep hk hnn) (fun x hx => by rw [hN] at hx; cases hx) (fun x hx => by rw [hP] at hx; cases hx)⟩
  have e : n' = n := by
    unfold Trk.blk at hb hb'
    cases hal : t.al with
    | none => rw [hal] at hb hb'; simp only at hb hb'; omega
    | some k =>
      rw [hal] at hb hb'; simp only at hb hb'
      rw [hb] at hb'
      injection hb' with hb'
      injection hb' with hb'
      injection hb' with hb'
      exact hb'.symm
  subst e
  exact h1
theorem InvN.skip (P : Program) (hI : InvN ns VF NV PV trs w0 L v w) (hL : L i = false) (hna : ∀ t ∈ trs, t.al ≠ some i ∧ t.st ≠ some i) (h : VF i undef) (hN : NV i = none) (hP : PV i = none) : InvN ns VF NV PV trs w0 (setB L i) (setV v i undef) w :=
  InvN.val_step (P := P) (r := .ok (.value undef) w) hI hL hna ⟨h, fun x hx => (by rw [hN] at hx; cases hx), fun x hx => (by rw [hP] at hx; cases hx), Ext.refl _⟩
end
theorem give_load_cell {P : Program} {w : World} {o : Oper} {ev : Operand → Value} {R : Value → World → Prop} (ty : TypeId) (x : Operand) (ho : o.op = .load ty x) (n k : Nat) (hx : ev x = .pointer (some ⟨n, k, none⟩)) {T : TypeId} {cs : List Value} (hR : Row w n T cs) (v : Value) (hv : cs[k]? = some v) (d : TypeDesc)
    (hu : P.underlying ty = some d) (hd : (match d with | .struct _ | .array _ _ => true | _ => false) = false) (h : R v w) : Gives P R ((execOp ev o).run P w) := by
  have hc : w.cell? ⟨n, k, none⟩ = some v := by
    unfold Row at hR
    rw [Lib.cell_of_heap hR]
    simpa using hv
  unfold execOp
  have hagg : (isAgg ty).run P w = .ok false w := by
    unfold isAgg
    rw [Sem.run_bind, run_underlying hu w]
    cases d <;> simp_all
  simp only [ho, hx, Instr.loadAt, Instr.sureAddr, loadVar, Sem.run_bind, Sem.run_pure, Result.andThen_ok, hagg]
  simp [hc]
  exact h
section
variable {w : World} {o : Oper} {ev : Operand → Value} {R : Value → World → Prop} {n : Nat} {X Y Z : F7}
theorem ld_3x (hR : R3w w n X Y Z) (p : Operand) (ho : o.op = .load 28 p) (hx : ev p = .pointer (some ⟨n, 0, none⟩)) (h : ∀ u, NF w u X → R u w) : Gives Try.prog R ((execOp ev o).run Try.prog w) := by
  obtain ⟨a, b, c, h1, h2, h3, h4⟩ := hR
  exact give_load_cell _ p ho n 0 hx h1 a rfl _ Try.underlying28 rfl (h _ h2)
theorem ld_3y (hR : R3w w n X Y Z) (p : Operand) (ho : o.op = .load 28 p) (hx : ev p = .pointer (some ⟨n, 1, none⟩)) (h : ∀ u, NF w u Y → R u w) : Gives Try.prog R ((execOp ev o).run Try.prog w) := by
  obtain ⟨a, b, c, h1, h2, h3, h4⟩ := hR
  exact give_load_cell _ p ho n 1 hx h1 b rfl _ Try.underlying28 rfl (h _ h3)
theorem ld_3z (hR : R3w w n X Y Z) (p : Operand) (ho : o.op = .load 28 p) (hx : ev p = .pointer (some ⟨n, 2, none⟩)) (h : ∀ u, NF w u Z → R u w) : Gives Try.prog R ((execOp ev o).run Try.prog w) := by
  obtain ⟨a, b, c, h1, h2, h3, h4⟩ := hR
  exact give_load_cell _ p ho n 2 hx h1 c rfl _ Try.underlying28 rfl (h _ h4)
end
end Go.Proofs.Ytndohjgfjbopnaa
