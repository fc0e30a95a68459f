import Derived.Test.YtndohjgfjbopnaaFx
import Derived.Test.YtndohjgfjbopnaaGP
import Derived.Test.YtndohjgfjbopnaaRN
import Derived.Test.YtndohjgfjbopnaaED
section
/-
  Elements of the field as the layer element hands them on, said in the field's own numbers; points as cells; what one operation of a region gives.
-/
set_option linter.unusedSimpArgs false
set_option linter.unusedVariables false
namespace Go.Cv
open Go.RowKit Go.Cv.Pr Go.Cv.Grp
/-- Four words that stand for x. -/
def isE (u : Value) (x : F7) : Prop := ∃ a b c d, u = el a b c d ∧ tf (val4 a b c d) = x
/-- The bytes of a field's number. -/
def fb (x : F7) : Nat → UInt8 := nb x.val
theorem ob_fb (n : Nat) : ob n = fb (tf n) := rfl
theorem V_fb (x : F7) : V (fb x) = x.val := V_nb (Nat.lt_trans x.isLt (by unfold Pr.pp; decide))
theorem tf_V_fb (x : F7) : tf (V (fb x)) = x := by rw [V_fb, tf_val]
theorem beqb_fb (x y : F7) : beqb (fb x) (fb y) = decide (x = y) := by
  unfold fb
  rw [beqb_nb (Nat.lt_trans x.isLt (by unfold Pr.pp; decide)) (Nat.lt_trans y.isLt (by unfold Pr.pp; decide))]
  by_cases h : x = y
  · subst h; simp
  · rw [decide_eq_false h, decide_eq_false (fun e => h (Fin.ext e))]
section
variable {P : Program} {w : World} {o : Oper} {ev : Operand → Value} {R : Value → World → Prop}
theorem give_load_row (ty : TypeId) (x : Operand) (ho : o.op = .load ty x) (n : Nat) (hx : ev x = .pointer (some ⟨n, 0, none⟩)) {T : TypeId} {cs : List Value} (hR : Row w n T cs) (d : TypeDesc)
    (hu : P.underlying ty = some d) (hd : (match d with | .struct _ | .array _ _ => true | _ => false) = true) (hi : (P.info? ty).map (·.size) = some cs.length) (h : R (.agg cs.toArray) w) : Gives P R ((execOp ev o).run P w) := by
  unfold execOp
  simp only [ho, hx, Instr.loadAt, Instr.sureAddr, Sem.run_bind, Sem.run_pure, Result.andThen_ok, run_loadVar_row w n T ty cs.toArray (0, 0) d hR hu hd (by simpa using hi)]
  exact h
theorem run_loadVar_part (w : World) (g k : Nat) (t ty : TypeId) (cs part : List Value) (fr : Nat × Nat) (d : TypeDesc) (hg : w.heap[g]? = some (.cells cs.toArray t fr)) (hp : (cs.drop k).take part.length = part)
    (hu : P.underlying ty = some d) (hd : (match d with | .struct _ | .array _ _ => true | _ => false) = true) (hi : (P.info? ty).map (·.size) = some part.length) :
    (loadVar ty ⟨g, k, none⟩).run P w = .ok (.agg part.toArray) w := by
  have hl : (loadCells ⟨g, k, none⟩ part.length).run P w = .ok part.toArray w :=
    run_loadCells_list (P := P) w ⟨g, k, none⟩ part (fun j v hv => by
      have hadd : (⟨g, k, none⟩ : Addr).add j = ⟨g, k + j, none⟩ := by unfold Addr.add; split <;> simp_all
      rw [hadd, cell_of_row w g (k + j) cs.toArray t fr hg]
      rw [← hp] at hv
      rw [List.getElem?_take] at hv
      split at hv
      · rw [List.getElem?_drop] at hv
        simpa using hv
      · cases hv)
  cases hq : P.info? ty with
  | none => simp [hq] at hi
  | some i =>
    have hs : i.size = part.length := by simpa [hq] using hi
    have hagg : (isAgg ty).run P w = .ok true w := by
      unfold isAgg
      rw [Sem.run_bind, run_underlying hu w]
      cases d <;> simp_all
    simp [loadVar, Sem.run_bind, hagg, sizeOf, typeInfo, hq, hs, hl]
theorem give_load_part (ty : TypeId) (x : Operand) (ho : o.op = .load ty x) (n k : Nat) (hx : ev x = .pointer (some ⟨n, k, none⟩)) {T : TypeId} {cs : List Value} (hR : Row w n T cs) (part : List Value) (hp : (cs.drop k).take part.length = part) (d : TypeDesc)
    (hu : P.underlying ty = some d) (hd : (match d with | .struct _ | .array _ _ => true | _ => false) = true) (hi : (P.info? ty).map (·.size) = some part.length) (h : R (.agg part.toArray) w) : Gives P R ((execOp ev o).run P w) := by
  unfold execOp
  simp only [ho, hx, Instr.loadAt, Instr.sureAddr, Sem.run_bind, Sem.run_pure, Result.andThen_ok, run_loadVar_part w n k T ty cs part (0, 0) d hR hp hu hd hi]
  exact h
theorem give_call (f : FuncId) (fn : Func) (l : List Operand) (ats : Array TypeId) (ho : o.op = .call { callee := .value (.func f), args := l.toArray, argTypes := ats }) (hev : ev (.func f) = .func (.func f) #[] #[])
    (hfn : P.funcs[f]? = some fn) (h1 : (fn.name == "runtime.NumGoroutine") = false) (h2 : fn.body.isNone = false)
    (h : Calls P f (l.map ev).toArray w (fun e w' => ∃ u, e = .returned u ∧ R u w')) : Gives P R ((execOp ev o).run P w) := by
  unfold execOp
  simp only [ho, resolve, hev, Deferred.ofValue, invoke, callFunc, List.map_toArray, Sem.run_bind, Sem.run_pure, Result.andThen_ok, run_program, hfn, h1, h2]
  simp
  exact h
theorem give_store_row (ty : TypeId) (x y : Operand) (ho : o.op = .store ty x y) (n : Nat) (cells : Array Value) (hx : ev x = .pointer (some ⟨n, 0, none⟩)) (hy : ev y = .agg cells) {T : TypeId} {cs : List Value} (hR : Row w n T cs)
    (hi : (P.info? ty).map (·.size) = some cells.size) (hs : cs.length = cells.size) (h1 : cells.all (·.oneCell') = true)
    (h : ∀ w', Row w' n T cells.toList → Keep [n] w w' → R undef w') : Gives P R ((execOp ev o).run P w) := by
  unfold execOp
  simp only [ho, hx, hy, Instr.storeAt, Instr.sureAddr, Sem.run_bind, Sem.run_pure, Result.andThen_ok, run_storeVar_row w n T ty cs.toArray cells hR hi (by simpa using hs) h1]
  refine h _ ?_ ?_
  · unfold Row
    rw [Array.toArray_toList]
    exact setRow_heap w n _ cells T (0, 0) hR
  · refine ⟨rfl, rfl, rfl, by simp [World.setRow], fun k _ hk => ?_⟩
    exact setRow_other w n k cells (by simpa using hk)
end
theorem el_one (a b c d : UInt64) : (w4 a b c d).all (·.oneCell') = true := by simp [w4, Value.oneCell']
end Go.Cv
namespace Go.Proofs.Ytndohjgfjbopnaa
open Go.RowKit Go.Cv Go.Cv.Pr Go.Cv.Grp
theorem emul {u v : Value} {x y : F7} (hu : isE u x) (hv : isE v y) (w : World) :
    Calls Try.prog 70 #[u, v] w fun e w' => ∃ r, e = .returned r ∧ isE r (x * y) ∧ Ext w w' := by
  obtain ⟨a, b, c, d, rfl, rfl⟩ := hu
  obtain ⟨a', b', c', d', rfl, rfl⟩ := hv
  refine (mul_any a b c d a' b' c' d' w).mono ?_
  rintro e w' ⟨s0, s1, s2, s3, rfl, hs, hx⟩
  exact ⟨_, rfl, ⟨s0, s1, s2, s3, rfl, by rw [hs.tf, tf_mul]⟩, hx⟩
theorem eadd {u v : Value} {x y : F7} (hu : isE u x) (hv : isE v y) (w : World) :
    Calls Try.prog 67 #[u, v] w fun e w' => ∃ r, e = .returned r ∧ isE r (x + y) ∧ Ext w w' := by
  obtain ⟨a, b, c, d, rfl, rfl⟩ := hu
  obtain ⟨a', b', c', d', rfl, rfl⟩ := hv
  refine (add_any a b c d a' b' c' d' w).mono ?_
  rintro e w' ⟨s0, s1, s2, s3, rfl, hs, hx⟩
  exact ⟨_, rfl, ⟨s0, s1, s2, s3, rfl, by rw [hs.tf, tf_add]⟩, hx⟩
theorem esub {u v : Value} {x y : F7} (hu : isE u x) (hv : isE v y) (w : World) :
    Calls Try.prog 69 #[u, v] w fun e w' => ∃ r, e = .returned r ∧ isE r (x - y) ∧ Ext w w' := by
  obtain ⟨a, b, c, d, rfl, rfl⟩ := hu
  obtain ⟨a', b', c', d', rfl, rfl⟩ := hv
  refine (sub_any a b c d a' b' c' d' w).mono ?_
  rintro e w' ⟨s0, s1, s2, s3, rfl, hs, hx⟩
  refine ⟨_, rfl, ⟨s0, s1, s2, s3, rfl, ?_⟩, hx⟩
  have h := hs.tf
  rw [tf_add] at h
  generalize tf (val4 s0 s1 s2 s3) = p at *
  generalize tf (val4 a' b' c' d') = q at *
  generalize tf (val4 a b c d) = r at *
  clear hs hx
  grind
theorem einv {u : Value} {x : F7} (hu : isE u x) (w : World) :
    Calls Try.prog 58 #[u] w fun e w' => ∃ r, e = .returned r ∧ isE r (fiv x) ∧ Ext w w' := by
  obtain ⟨a, b, c, d, rfl, rfl⟩ := hu
  refine (inv_any a b c d w).mono ?_
  rintro e w' ⟨s0, s1, s2, s3, rfl, hs, hx⟩
  exact ⟨_, rfl, ⟨s0, s1, s2, s3, rfl, by rw [(pI_is hs).tf, tf_pI]⟩, hx⟩
theorem eout {u : Value} {x : F7} (hu : isE u x) (w : World) :
    Calls Try.prog 59 #[u] w fun e w' => e = .returned (.agg (bcells (fb x))) ∧ Ext w w' := by
  obtain ⟨a, b, c, d, rfl, rfl⟩ := hu
  exact out_ob a b c d w
theorem ein (f : Nat → UInt8) (w : World) :
    Calls Try.prog 71 #[.agg (bcells f)] w fun e w' => ∃ r, e = .returned r ∧ isE r (tf (V f)) ∧ Ext w w' := by
  refine (in_any f w).mono ?_
  rintro e w' ⟨rfl, hx⟩
  exact ⟨_, rfl, ⟨_, _, _, _, rfl, by rw [V_wd]⟩, hx⟩
end Go.Proofs.Ytndohjgfjbopnaa
end
section
/-
  Rows that hold an element, a point with its denominator, bytes or a point: read and stored within a region.
-/
set_option linter.unusedSimpArgs false
set_option linter.unusedVariables false
namespace Go.Cv
open Go.RowKit Go.Cv.Pr Go.Cv.Grp
/-- A row whose cells, taken as one value, are so. -/
def RV (w : World) (n : Nat) (T : TypeId) (φ : Value → Prop) : Prop := ∃ cs, Row w n T cs ∧ φ (.agg (List.toArray cs))
theorem RV.keep {bs : List Nat} {w w' : World} {n : Nat} {T : TypeId} {φ : Value → Prop} (h : RV w n T φ) (k : Keep bs w w') (hb : n ∉ bs) : RV w' n T φ := by
  obtain ⟨cs, h1, h2⟩ := h
  exact ⟨cs, h1.keep k hb, h2⟩
theorem RV.ext {w w' : World} {n : Nat} {T : TypeId} {φ : Value → Prop} (h : RV w n T φ) (k : Ext w w') : RV w' n T φ := by
  obtain ⟨cs, h1, h2⟩ := h
  exact ⟨cs, h1.ext k, h2⟩
theorem RV.lt {w : World} {n : Nat} {T : TypeId} {φ : Value → Prop} (h : RV w n T φ) : n < w.heap.size := by
  obtain ⟨cs, h1, h2⟩ := h
  exact h1.lt
theorem Ext.keep_ {w a b : World} {ns : List Nat} (h : Ext w a) (k : Keep ns a b) (hn : ∀ x ∈ ns, w.heap.size ≤ x) : Ext w b := Below.trans h (k.below hn h.size)
theorem Inv.start0 {ns : List Nat} {VF : Nat → Value → Prop} {trs : List Trk} {w0 : World} (hok : TrsOk ns w0.heap.size trs) (h : ∀ t ∈ trs, t.al = none → ∃ cs, Row w0 t.n0 t.T cs ∧ t.old cs) : Inv ns VF trs w0 (fun _ => false) (fun _ => undef) w0 :=
  ⟨⟨rfl, rfl, rfl, Nat.le_refl _, fun _ _ _ => rfl⟩, fun j hj => (by cases hj), fun t ht hth => by
    cases hal : t.al with
    | none =>
      obtain ⟨cs, h1, h2⟩ := h t ht hal
      exact ⟨t.n0, cs, by unfold Trk.blk; rw [hal], .inl rfl, h1, fun s _ hs => (by cases hs), fun _ => h2⟩
    | some k => exact absurd (hth k hal) (by simp), fun r hr s hs k l _ _ _ hk _ => by cases hk⟩
/-- A row that is there and isn't stored yet. -/
theorem Inv.row_old {ns : List Nat} {VF : Nat → Value → Prop} {trs : List Trk} {w0 w : World} {L : Nat → Bool} {v : Nat → Value} (hI : Inv ns VF trs w0 L v w) (t : Trk) (ht : t ∈ trs) (hal : t.al = none) (hst : ∀ s, t.st = some s → L s = false) : ∃ cs, Row w t.n0 t.T cs ∧ t.old cs := by
  obtain ⟨n, cs, h1, _, h3, _, h5⟩ := hI.trk t ht (fun k hk => by rw [hal] at hk; cases hk)
  unfold Trk.blk at h1
  rw [hal] at h1
  simp only at h1
  subst h1
  exact ⟨cs, h3, h5 hst⟩
/-- A row stored. -/
theorem Inv.row_new {ns : List Nat} {VF : Nat → Value → Prop} {trs : List Trk} {w0 w : World} {L : Nat → Bool} {v : Nat → Value} (hI : Inv ns VF trs w0 L v w) (t : Trk) (ht : t ∈ trs) (hal : t.al = none) (s : Nat) (hs : t.st = some s) (hL : L s = true) : ∃ cs, Row w t.n0 t.T cs ∧ t.new cs := by
  obtain ⟨n, cs, h1, _, h3, h4, _⟩ := hI.trk t ht (fun k hk => by rw [hal] at hk; cases hk)
  unfold Trk.blk at h1
  rw [hal] at h1
  simp only at h1
  subst h1
  exact ⟨cs, h3, h4 s hs hL⟩
theorem Inv.row_made {ns : List Nat} {VF : Nat → Value → Prop} {trs : List Trk} {w0 w : World} {L : Nat → Bool} {v : Nat → Value} (hI : Inv ns VF trs w0 L v w) (t : Trk) (ht : t ∈ trs) (k : Nat) (hal : t.al = some k) (hk : L k = true) :
    ∃ n cs, v k = .pointer (some ⟨n, 0, none⟩) ∧ w0.heap.size ≤ n ∧ Row w n t.T cs ∧ (∀ s, t.st = some s → L s = true → t.new cs) ∧ ((∀ s, t.st = some s → L s = false) → t.old cs) := by
  obtain ⟨n, cs, h1, h2, h3, h4, h5⟩ := hI.trk t ht (fun j hj => by rw [hal] at hj; injection hj with hj; rw [← hj]; exact hk)
  unfold Trk.blk at h1
  rw [hal] at h1
  rcases h2 with h2 | h2
  · rw [hal] at h2; cases h2
  · exact ⟨n, cs, h1, h2, h3, h4, h5⟩
theorem not_yet {L : Nat → Bool} {pl : List Plan} {i s : Nat} (hC : ∀ j, L j = true → ∀ d ∈ depsOf pl j, L d = true) (hL : L i = false) (hd : (depsOf pl s).contains i = true) : L s = false := by
  cases h : L s
  · rfl
  · have := hC s h i (List.contains_iff_mem.1 hd)
    rw [hL] at this
    cases this
theorem Keep.to_ext {w w' : World} (h : Keep [] w w') : Ext w w' := ⟨h.os, h.tape, h.output, h.size, fun k hk => h.keep k hk (by simp)⟩
/-- Eight words, sixteen words. -/
def isFl (u : Value) (x y : F7) : Prop := ∃ a0 a1 a2 a3 b0 b1 b2 b3, u = .agg #[.int .u64 (n64 a0), .int .u64 (n64 a1), .int .u64 (n64 a2), .int .u64 (n64 a3), .int .u64 (n64 b0), .int .u64 (n64 b1), .int .u64 (n64 b2), .int .u64 (n64 b3)] ∧ tf (val4 a0 a1 a2 a3) = x ∧ tf (val4 b0 b1 b2 b3) = y
def isW (u : Value) (x y z t : F7) : Prop := ∃ a0 a1 a2 a3 b0 b1 b2 b3 c0 c1 c2 c3 d0 d1 d2 d3, u = .agg #[.int .u64 (n64 a0), .int .u64 (n64 a1), .int .u64 (n64 a2), .int .u64 (n64 a3), .int .u64 (n64 b0), .int .u64 (n64 b1), .int .u64 (n64 b2), .int .u64 (n64 b3), .int .u64 (n64 c0), .int .u64 (n64 c1), .int .u64 (n64 c2), .int .u64 (n64 c3), .int .u64 (n64 d0), .int .u64 (n64 d1), .int .u64 (n64 d2), .int .u64 (n64 d3)] ∧ tf (val4 a0 a1 a2 a3) = x ∧ tf (val4 b0 b1 b2 b3) = y ∧ tf (val4 c0 c1 c2 c3) = z ∧ tf (val4 d0 d1 d2 d3) = t
theorem isE_len {cs : List Value} {x : F7} (h : isE (.agg cs.toArray) x) : cs.length = 4 := by
  obtain ⟨a, b, c, d, h1, _⟩ := h
  injection h1 with h1
  have := congrArg Array.size h1
  simpa using this
theorem isE_mk (a b c d : UInt64) {x : F7} (h : tf (val4 a b c d) = x) : isE (.agg #[.int .u64 (n64 a), .int .u64 (n64 b), .int .u64 (n64 c), .int .u64 (n64 d)]) x := ⟨a, b, c, d, rfl, h⟩
theorem isE_cells {u : Value} {x : F7} (h : isE u x) : ∃ c : Array Value, u = .agg c ∧ c.size = 4 ∧ c.all (·.oneCell') = true ∧ isE (.agg c.toList.toArray) x := by
  obtain ⟨a, b, c, d, rfl, h2⟩ := h
  exact ⟨w4 a b c d, rfl, rfl, el_one a b c d, ⟨a, b, c, d, rfl, h2⟩⟩
theorem isW_len {cs : List Value} {x y z t : F7} (h : isW (.agg cs.toArray) x y z t) : cs.length = 16 := by
  obtain ⟨a0, a1, a2, a3, b0, b1, b2, b3, c0, c1, c2, c3, d0, d1, d2, d3, h1, _⟩ := h
  injection h1 with h1
  have := congrArg Array.size h1
  simpa using this
theorem isW_cells {u : Value} {x y z t : F7} (h : isW u x y z t) : ∃ c : Array Value, u = .agg c ∧ c.size = 16 ∧ c.all (·.oneCell') = true ∧ isW (.agg c.toList.toArray) x y z t := by
  obtain ⟨a0, a1, a2, a3, b0, b1, b2, b3, c0, c1, c2, c3, d0, d1, d2, d3, rfl, h2⟩ := h
  exact ⟨_, rfl, rfl, by simp [Value.oneCell'], ⟨a0, a1, a2, a3, b0, b1, b2, b3, c0, c1, c2, c3, d0, d1, d2, d3, rfl, h2⟩⟩
theorem isW_parts {cs : List Value} {x y z t : F7} (h : isW (.agg cs.toArray) x y z t) : ∃ p q r s : List Value, p.length = 4 ∧ q.length = 4 ∧ r.length = 4 ∧ s.length = 4 ∧ (cs.drop 0).take p.length = p ∧ (cs.drop 4).take q.length = q ∧ (cs.drop 8).take r.length = r ∧ (cs.drop 12).take s.length = s ∧
    isE (.agg p.toArray) x ∧ isE (.agg q.toArray) y ∧ isE (.agg r.toArray) z ∧ isE (.agg s.toArray) t := by
  obtain ⟨a0, a1, a2, a3, b0, b1, b2, b3, c0, c1, c2, c3, d0, d1, d2, d3, h1, h2, h3, h4, h5⟩ := h
  injection h1 with h1
  have hc : cs = [.int .u64 (n64 a0), .int .u64 (n64 a1), .int .u64 (n64 a2), .int .u64 (n64 a3), .int .u64 (n64 b0), .int .u64 (n64 b1), .int .u64 (n64 b2), .int .u64 (n64 b3), .int .u64 (n64 c0), .int .u64 (n64 c1), .int .u64 (n64 c2), .int .u64 (n64 c3), .int .u64 (n64 d0), .int .u64 (n64 d1), .int .u64 (n64 d2), .int .u64 (n64 d3)] := by
    have := congrArg Array.toList h1
    simpa using this
  subst hc
  exact ⟨_, _, _, _, rfl, rfl, rfl, rfl, rfl, rfl, rfl, rfl, isE_mk _ _ _ _ h2, isE_mk _ _ _ _ h3, isE_mk _ _ _ _ h4, isE_mk _ _ _ _ h5⟩
/-- A point's cells. -/
noncomputable def pcL (f g : Nat → UInt8) : List Value := (bcells f).toList ++ (bcells g).toList
noncomputable def pc (f g : Nat → UInt8) : Array Value := (pcL f g).toArray
theorem pcL_len (f g : Nat → UInt8) : (pcL f g).length = 64 := by simp [pcL]
theorem pc_0 (f g : Nat → UInt8) : ((pcL f g).drop 0).take (bcells f).toList.length = (bcells f).toList := by simp [pcL]
theorem pc_32 (f g : Nat → UInt8) : ((pcL f g).drop 32).take (bcells g).toList.length = (bcells g).toList := by
  have : (pcL f g).drop 32 = (bcells g).toList := by
    unfold pcL
    rw [List.drop_append_of_le_length (by simp), List.drop_of_length_le (by simp), List.nil_append]
  rw [this, List.take_length]
theorem pc_size (f g : Nat → UInt8) : (pc f g).size = 64 := by
  unfold pc
  rw [List.size_toArray, pcL_len]
theorem pc_one (f g : Nat → UInt8) : (pc f g).all (·.oneCell') = true := by
  unfold pc pcL
  have h1 := bcells_one f
  have h2 := bcells_one g
  rw [Array.all_eq_true_iff_forall_mem] at *
  intro x hx
  simp only [List.mem_toArray, List.mem_append, Array.mem_toList_iff] at hx
  rcases hx with h | h
  · exact h1 x h
  · exact h2 x h
theorem pc_eq (f g : Nat → UInt8) : pc f g = bcells f ++ bcells g := by
  unfold pc pcL
  apply Array.ext'
  simp
theorem pcL_of {cs : List Value} {f g : Nat → UInt8} (h : (.agg cs.toArray : Value) = .agg (pc f g)) : cs = pcL f g := by
  injection h with h
  have := congrArg Array.toList h
  simpa [pc] using this
theorem bL_of {cs : List Value} {f : Nat → UInt8} (h : (.agg cs.toArray : Value) = .agg (bcells f)) : cs = (bcells f).toList := by
  injection h with h
  have := congrArg Array.toList h
  simpa using this
end Go.Cv
namespace Go.Proofs.Ytndohjgfjbopnaa
open Go.RowKit Go.Cv Go.Cv.Pr Go.Cv.Grp
theorem iEl : (Try.prog.info? 73).map (·.size) = some 4 := by kernel_rfl
theorem uWd : ∃ fs, Try.prog.underlying 91 = some (.struct fs) := ⟨_, Try.underlying91⟩
theorem iWd : (Try.prog.info? 91).map (·.size) = some 16 := by kernel_rfl
theorem uPt : ∃ fs, Try.prog.underlying 43 = some (.struct fs) := ⟨_, Try.underlying43⟩
theorem iPt : (Try.prog.info? 43).map (·.size) = some 64 := by kernel_rfl
section
variable {w : World} {o : Oper} {ev : Operand → Value} {R : Value → World → Prop} {n : Nat} {x y z t : F7} {f g : Nat → UInt8}
theorem ld_E (hR : RV w n 73 (fun u => isE u x)) (p : Operand) (ho : o.op = .load 73 p) (hx : ev p = .pointer (some ⟨n, 0, none⟩)) (h : ∀ u, isE u x → R u w) : Gives Try.prog R ((execOp ev o).run Try.prog w) := by
  obtain ⟨cs, h1, h2⟩ := hR
  exact give_load_row _ p ho n hx h1 _ u73 rfl (by rw [isE_len h2]; exact iEl) (h _ h2)
theorem ld_W (hR : RV w n 91 (fun u => isW u x y z t)) (p : Operand) (ho : o.op = .load 91 p) (hx : ev p = .pointer (some ⟨n, 0, none⟩)) (h : ∀ u, isW u x y z t → R u w) : Gives Try.prog R ((execOp ev o).run Try.prog w) := by
  obtain ⟨cs, h1, h2⟩ := hR
  obtain ⟨fs, hu⟩ := uWd
  exact give_load_row _ p ho n hx h1 _ hu rfl (by rw [isW_len h2]; exact iWd) (h _ h2)
theorem ld_Wx (hR : RV w n 91 (fun u => isW u x y z t)) (p : Operand) (ho : o.op = .load 73 p) (hx : ev p = .pointer (some ⟨n, 0, none⟩)) (h : ∀ u, isE u x → R u w) : Gives Try.prog R ((execOp ev o).run Try.prog w) := by
  obtain ⟨cs, h1, h2⟩ := hR
  obtain ⟨p1, q1, r1, s1, l1, l2, l3, l4, e1, e2, e3, e4, i1, i2, i3, i4⟩ := isW_parts h2
  exact give_load_part _ p ho n 0 hx h1 p1 e1 _ u73 rfl (by rw [l1]; exact iEl) (h _ i1)
theorem ld_Wy (hR : RV w n 91 (fun u => isW u x y z t)) (p : Operand) (ho : o.op = .load 73 p) (hx : ev p = .pointer (some ⟨n, 4, none⟩)) (h : ∀ u, isE u y → R u w) : Gives Try.prog R ((execOp ev o).run Try.prog w) := by
  obtain ⟨cs, h1, h2⟩ := hR
  obtain ⟨p1, q1, r1, s1, l1, l2, l3, l4, e1, e2, e3, e4, i1, i2, i3, i4⟩ := isW_parts h2
  exact give_load_part _ p ho n 4 hx h1 q1 e2 _ u73 rfl (by rw [l2]; exact iEl) (h _ i2)
theorem ld_Wz (hR : RV w n 91 (fun u => isW u x y z t)) (p : Operand) (ho : o.op = .load 73 p) (hx : ev p = .pointer (some ⟨n, 8, none⟩)) (h : ∀ u, isE u z → R u w) : Gives Try.prog R ((execOp ev o).run Try.prog w) := by
  obtain ⟨cs, h1, h2⟩ := hR
  obtain ⟨p1, q1, r1, s1, l1, l2, l3, l4, e1, e2, e3, e4, i1, i2, i3, i4⟩ := isW_parts h2
  exact give_load_part _ p ho n 8 hx h1 r1 e3 _ u73 rfl (by rw [l3]; exact iEl) (h _ i3)
theorem ld_Wt (hR : RV w n 91 (fun u => isW u x y z t)) (p : Operand) (ho : o.op = .load 73 p) (hx : ev p = .pointer (some ⟨n, 12, none⟩)) (h : ∀ u, isE u t → R u w) : Gives Try.prog R ((execOp ev o).run Try.prog w) := by
  obtain ⟨cs, h1, h2⟩ := hR
  obtain ⟨p1, q1, r1, s1, l1, l2, l3, l4, e1, e2, e3, e4, i1, i2, i3, i4⟩ := isW_parts h2
  exact give_load_part _ p ho n 12 hx h1 s1 e4 _ u73 rfl (by rw [l4]; exact iEl) (h _ i4)
theorem ld_B (hR : RV w n 22 (fun u => u = .agg (bcells f))) (p : Operand) (ho : o.op = .load 22 p) (hx : ev p = .pointer (some ⟨n, 0, none⟩)) (h : ∀ u, u = .agg (bcells f) → R u w) : Gives Try.prog R ((execOp ev o).run Try.prog w) := by
  obtain ⟨cs, h1, h2⟩ := hR
  exact give_load_row _ p ho n hx h1 _ u22 rfl (by rw [bL_of h2]; simpa using i22) (h _ h2)
theorem ld_P (hR : RV w n 43 (fun u => u = .agg (pc f g))) (p : Operand) (ho : o.op = .load 43 p) (hx : ev p = .pointer (some ⟨n, 0, none⟩)) (h : ∀ u, u = .agg (pc f g) → R u w) : Gives Try.prog R ((execOp ev o).run Try.prog w) := by
  obtain ⟨cs, h1, h2⟩ := hR
  obtain ⟨fs, hu⟩ := uPt
  exact give_load_row _ p ho n hx h1 _ hu rfl (by rw [pcL_of h2, pcL_len]; exact iPt) (h _ h2)
theorem ld_Px (hR : RV w n 43 (fun u => u = .agg (pc f g))) (p : Operand) (ho : o.op = .load 22 p) (hx : ev p = .pointer (some ⟨n, 0, none⟩)) (h : ∀ u, u = .agg (bcells f) → R u w) : Gives Try.prog R ((execOp ev o).run Try.prog w) := by
  obtain ⟨cs, h1, h2⟩ := hR
  rw [pcL_of h2] at h1
  exact give_load_part _ p ho n 0 hx h1 (bcells f).toList (pc_0 f g) _ u22 rfl (by simpa using i22) (h _ (by rw [Array.toArray_toList]))
theorem ld_Py (hR : RV w n 43 (fun u => u = .agg (pc f g))) (p : Operand) (ho : o.op = .load 22 p) (hx : ev p = .pointer (some ⟨n, 32, none⟩)) (h : ∀ u, u = .agg (bcells g) → R u w) : Gives Try.prog R ((execOp ev o).run Try.prog w) := by
  obtain ⟨cs, h1, h2⟩ := hR
  rw [pcL_of h2] at h1
  exact give_load_part _ p ho n 32 hx h1 (bcells g).toList (pc_32 f g) _ u22 rfl (by simpa using i22) (h _ (by rw [Array.toArray_toList]))
theorem st_E {cs : List Value} (hR : Row w n 73 cs) (hl : cs.length = 4) (p q : Operand) (ho : o.op = .store 73 p q) (hx : ev p = .pointer (some ⟨n, 0, none⟩)) (hy : isE (ev q) x)
    (h : ∀ w' cs', Row w' n 73 cs' → isE (.agg (List.toArray cs')) x → Keep [n] w w' → R undef w') : Gives Try.prog R ((execOp ev o).run Try.prog w) := by
  obtain ⟨c, h1, h2, h3, h4⟩ := isE_cells hy
  exact give_store_row _ p q ho n c hx h1 hR (by rw [h2]; exact iEl) (by rw [h2]; exact hl) h3 fun w' hr hk => h w' _ hr h4 hk
theorem st_W {cs : List Value} (hR : Row w n 91 cs) (hl : cs.length = 16) (p q : Operand) (ho : o.op = .store 91 p q) (hx : ev p = .pointer (some ⟨n, 0, none⟩)) (hy : isW (ev q) x y z t)
    (h : ∀ w' cs', Row w' n 91 cs' → isW (.agg (List.toArray cs')) x y z t → Keep [n] w w' → R undef w') : Gives Try.prog R ((execOp ev o).run Try.prog w) := by
  obtain ⟨c, h1, h2, h3, h4⟩ := isW_cells hy
  exact give_store_row _ p q ho n c hx h1 hR (by rw [h2]; exact iWd) (by rw [h2]; exact hl) h3 fun w' hr hk => h w' _ hr h4 hk
theorem st_B {cs : List Value} (hR : Row w n 22 cs) (hl : cs.length = 32) (p q : Operand) (ho : o.op = .store 22 p q) (hx : ev p = .pointer (some ⟨n, 0, none⟩)) (hy : ev q = .agg (bcells f))
    (h : ∀ w' cs', Row w' n 22 cs' → (.agg (List.toArray cs') : Value) = .agg (bcells f) → Keep [n] w w' → R undef w') : Gives Try.prog R ((execOp ev o).run Try.prog w) :=
  give_store_row _ p q ho n (bcells f) hx hy hR (by rw [bcells_size]; exact i22) (by rw [bcells_size]; exact hl) (bcells_one f) fun w' hr hk => h w' _ hr (by rw [Array.toArray_toList]) hk
theorem st_P {cs : List Value} (hR : Row w n 43 cs) (hl : cs.length = 64) (p q : Operand) (ho : o.op = .store 43 p q) (hx : ev p = .pointer (some ⟨n, 0, none⟩)) (hy : ev q = .agg (pc f g))
    (h : ∀ w' cs', Row w' n 43 cs' → (.agg (List.toArray cs') : Value) = .agg (pc f g) → Keep [n] w w' → R undef w') : Gives Try.prog R ((execOp ev o).run Try.prog w) :=
  give_store_row _ p q ho n (pc f g) hx hy hR (by rw [pc_size]; exact iPt) (by rw [pc_size]; exact hl) (pc_one f g) fun w' hr hk => h w' _ hr (by rw [Array.toArray_toList]) hk
end
end Go.Proofs.Ytndohjgfjbopnaa
end
