/-
  The curve's points: a number times a point.
-/
import Derived.Test.YtndohjgfjbopnaaPS
set_option linter.unusedSimpArgs false
set_option linter.unusedVariables false
namespace Go.Cv
open Go.RowKit Go.Cv.Pr Go.Cv.Grp
theorem give_index {P : Program} {w : World} {o : Oper} {ev : Operand → Value} {R : Value → World → Prop} (ty elem : TypeId) (x i : Operand) (ho : o.op = .indexAddr ty x i) (n k s len : Nat) (kd : IntKind) (hx : ev x = .pointer (some ⟨n, 0, none⟩)) (hi : ev i = .int kd (k : Int))
    (hu : P.underlying ty = some (.array len elem)) (hk : k < len) (hs : (P.info? elem).map (·.size) = some s) (h : R (.pointer (some ⟨n, k * s, none⟩)) w) : Gives P R ((execOp ev o).run P w) := by
  unfold execOp
  have hkI : (k : Int) < (len : Int) := by omega
  have hk0 : (0 : Int) ≤ (k : Int) := by omega
  have hadd : (⟨n, 0, none⟩ : Addr).add (k * s) = ⟨n, k * s, none⟩ := by unfold Addr.add; split <;> simp_all
  cases hq : P.info? elem with
  | none => simp [hq] at hs
  | some i =>
    have hs : i.size = s := by simpa [hq] using hs
    simp [ho, Instr.indexAt, hx, hi, asIntOf, Instr.sureAddr, hk, run_underlying hu, Go.sizeOf, typeInfo, hq, hs, hkI, hk0, hadd]
    exact h
theorem run_storeVar_part {P : Program} (w : World) (g k : Nat) (t ty : TypeId) (cs : List Value) (cells : Array Value) (hg : w.heap[g]? = some (.cells cs.toArray t (0, 0))) (hi : (P.info? ty).map (·.size) = some cells.size) (hl : k + cells.size ≤ cs.length) (h1 : cells.all (·.oneCell') = true) :
    (storeVar ty ⟨g, k, none⟩ (.agg cells)).run P w = .ok () (w.setRow g (cs.take k ++ cells.toList ++ cs.drop (k + cells.size)).toArray) := by
  cases hq : P.info? ty with
  | none => simp [hq] at hi
  | some i =>
    have hs : i.size = cells.size := by simpa [hq] using hi
    have h := run_storeCells_at (P := P) g k t cells.toList 0 cs.toArray w hg (by simpa using hl) (fun v hv => by
      rw [Array.all_eq_true'] at h1
      exact h1 v (by simpa using hv))
    simp only [Nat.add_zero, Array.length_toList] at h
    simp [storeVar, Go.sizeOf, typeInfo, hq, Value.cells, hs, h]

theorem give_idx {P : Program} {w : World} {o : Oper} {ev : Operand → Value} {R : Value → World → Prop} (ty elem : TypeId) (x i : Operand) (ho : o.op = .index ty x i) (k len : Nat) (kd : IntKind) (cs : Array Value) (hx : ev x = .agg cs) (hi : ev i = .int kd (k : Int))
    (hu : P.underlying ty = some (.array len elem)) (hk : k < len) (hs : (P.info? elem).map (·.size) = some 1) (d : TypeDesc) (he : P.underlying elem = some d) (hd : (match d with | .struct _ | .array _ _ => true | _ => false) = false) (v : Value) (hv : cs[k]? = some v) (h : R v w) : Gives P R ((execOp ev o).run P w) := by
  unfold execOp
  have hkI : (k : Int) < (len : Int) := by omega
  have hk0 : (0 : Int) ≤ (k : Int) := by omega
  have hagg : (isAgg elem).run P w = .ok false w := by
    unfold isAgg
    rw [Sem.run_bind, run_underlying he w]
    cases d <;> simp_all
  cases hq : P.info? elem with
  | none => simp [hq] at hs
  | some i =>
    have hs : i.size = 1 := by simpa [hq] using hs
    simp [ho, Instr.index, hx, hi, asIntOf, hk, run_underlying hu, Go.sizeOf, typeInfo, hq, hs, hkI, hk0, part, hagg, hv]
    exact h
theorem give_store_part {P : Program} {w : World} {o : Oper} {ev : Operand → Value} {R : Value → World → Prop} (ty : TypeId) (x y : Operand) (ho : o.op = .store ty x y) (n k : Nat) (cells : Array Value) (hx : ev x = .pointer (some ⟨n, k, none⟩)) (hy : ev y = .agg cells) {T : TypeId} {cs : List Value} (hR : Row w n T cs)
    (hi : (P.info? ty).map (·.size) = some cells.size) (hs : k + cells.size ≤ cs.length) (h1 : cells.all (·.oneCell') = true)
    (h : ∀ w', Row w' n T (cs.take k ++ cells.toList ++ cs.drop (k + cells.size)) → Keep [n] w w' → R undef w') : Gives P R ((execOp ev o).run P w) := by
  unfold execOp
  simp only [ho, hx, hy, Instr.storeAt, Instr.sureAddr, Sem.run_bind, Sem.run_pure, Result.andThen_ok, run_storeVar_part w n k T ty cs cells hR hi hs h1]
  refine h _ ?_ ?_
  · exact setRow_heap w n _ _ T (0, 0) hR
  · refine ⟨rfl, rfl, rfl, by simp [World.setRow], fun k _ hk => ?_⟩
    exact setRow_other w n k _ (by simpa using hk)
theorem give_load_cell0 {P : Program} {w : World} {o : Oper} {ev : Operand → Value} {R : Value → World → Prop} (ty : TypeId) (x : Operand) (ho : o.op = .load ty x) (n k : Nat) (hx : ev x = .pointer (some ⟨n, k, none⟩)) {T : TypeId} {cs : List Value} (hR : Row w n T cs) (v : Value) (hv : cs[k]? = some v) (d : TypeDesc)
    (hu : P.underlying ty = some d) (hd : (match d with | .struct _ | .array _ _ => true | _ => false) = false) (h : R v w) : Gives P R ((execOp ev o).run P w) := by
  have hc : w.cell? ⟨n, k, none⟩ = some v := by
    unfold Row at hR
    rw [Lib.cell_of_heap hR]
    simpa using hv
  unfold execOp
  have hagg : (isAgg ty).run P w = .ok false w := by
    unfold isAgg
    rw [Sem.run_bind, run_underlying hu w]
    cases d <;> simp_all
  simp only [ho, hx, Instr.loadAt, Instr.sureAddr, loadVar, Sem.run_bind, Sem.run_pure, Result.andThen_ok, hagg]
  simp [hc]
  exact h
/-- Half bytes. -/
theorem nib_hi (N b i : Nat) (h : N / 2 ^ (8 * i) % 256 = b) : N / 2 ^ (8 * i + 4) = 16 * (N / 2 ^ (8 * (i + 1))) + b / 16 := by
  have e1 : N / 2 ^ (8 * i + 4) = N / 2 ^ (8 * i) / 16 := by rw [Nat.pow_add, Nat.div_div_eq_div_mul]
  have e2 : N / 2 ^ (8 * (i + 1)) = N / 2 ^ (8 * i) / 256 := by rw [show 8 * (i + 1) = 8 * i + 8 from by omega, Nat.pow_add, Nat.div_div_eq_div_mul]
  rw [e1, e2, ← h]; omega
theorem nib_lo (N b i : Nat) (h : N / 2 ^ (8 * i) % 256 = b) : N / 2 ^ (8 * i) = 16 * (N / 2 ^ (8 * i + 4)) + b % 16 := by
  have e1 : N / 2 ^ (8 * i + 4) = N / 2 ^ (8 * i) / 16 := by rw [Nat.pow_add, Nat.div_div_eq_div_mul]
  rw [e1, ← h]; omega
theorem nb_Vt (f : Nat → UInt8) : ∀ i, i < 32 → nb (V f) i = f i := by
  intro i hi
  obtain ⟨k, hk⟩ : ∃ k, 32 = i + (1 + k) := ⟨31 - i, by omega⟩
  have h1 : V f = bsum f i + 2 ^ (8 * i) * bsum (fun j => f (i + j)) (1 + k) := by
    unfold V
    rw [hk, bsum_add]
  have h2 := bsum_lt f i
  have h3 : V f / 2 ^ (8 * i) = bsum (fun j => f (i + j)) (1 + k) := by
    rw [h1, Nat.add_mul_div_left _ _ (Nat.two_pow_pos _), Nat.div_eq_of_lt h2, Nat.zero_add]
  unfold nb
  rw [h3, bsum_add]
  simp only [bsum]
  apply UInt8.toNat_inj.1
  have h4 := (f i).toNat_lt
  rw [UInt8.toNat_ofNat']
  simp only [Nat.add_zero, Nat.mul_zero, Nat.pow_zero, Nat.one_mul, Nat.zero_add, Nat.mul_one]
  omega
theorem V_byte (f : Nat → UInt8) {i : Nat} (hi : i < 32) : V f / 2 ^ (8 * i) % 256 = (f i).toNat := by
  have h := nb_Vt f i hi
  have h2 := congrArg UInt8.toNat h
  unfold nb at h2
  rw [UInt8.toNat_ofNat'] at h2
  exact h2
theorem quad_pt (N q : Nat) (P : P7) : ((((((Pt.mul N P).add (Pt.mul N P)).add ((Pt.mul N P).add (Pt.mul N P))).add (((Pt.mul N P).add (Pt.mul N P)).add ((Pt.mul N P).add (Pt.mul N P)))).add ((((Pt.mul N P).add (Pt.mul N P)).add ((Pt.mul N P).add (Pt.mul N P))).add (((Pt.mul N P).add (Pt.mul N P)).add ((Pt.mul N P).add (Pt.mul N P)))))).add (Pt.mul q P) = Pt.mul (16 * N + q) P := by
  rw [two_mul_pt, two_mul_pt, two_mul_pt, two_mul_pt, Pt.mul_add]
  congr 2
  omega
theorem beqb_bcells {f g : Nat → UInt8} (h : beqb f g = true) : bcells f = bcells g := bcells_congr ((beqb_iff _ _).1 h)
end Go.Cv
namespace Go.Proofs.Ytndohjgfjbopnaa
open Go.RowKit Go.Cv Go.Cv.Pr Go.Cv.Grp
/-- A table of wides: the first m multiples of a point. -/
def isT (u : Value) (m : Nat) (P : P7) : Prop := ∃ cs : List Value, u = .agg cs.toArray ∧ cs.length = 256 ∧ ∀ j, j < m → isP (.agg ((cs.drop (16 * j)).take 16).toArray) (Pt.mul j P)
theorem isT_len {cs : List Value} {m : Nat} {P : P7} (h : isT (.agg cs.toArray) m P) : cs.length = 256 := by
  obtain ⟨c, h1, h2, -⟩ := h
  injection h1 with h1
  have := congrArg Array.toList h1
  simp only at this
  rw [this]; exact h2
theorem isT_at {cs : List Value} {m : Nat} {P : P7} (h : isT (.agg cs.toArray) m P) {j : Nat} (hj : j < m) : isP (.agg ((cs.drop (16 * j)).take 16).toArray) (Pt.mul j P) := by
  obtain ⟨c, h1, h2, h3⟩ := h
  injection h1 with h1
  have := congrArg Array.toList h1
  simp only at this
  rw [this]; exact h3 j hj
theorem isT_zero {cs : List Value} (P : P7) (h : cs.length = 256) : isT (.agg cs.toArray) 0 P := ⟨cs, rfl, h, fun j hj => absurd hj (by omega)⟩
theorem isT_put {cs c : List Value} {m : Nat} {P : P7} (h : isT (.agg cs.toArray) m P) (hm : m < 16) (hc : c.length = 16) (hP : isP (.agg c.toArray) (Pt.mul m P)) :
    isT (.agg (cs.take (16 * m) ++ c ++ cs.drop (16 * m + 16)).toArray) (m + 1) P := by
  have hl := isT_len h
  refine ⟨_, rfl, by simp [hl, hc]; omega, fun j hj => ?_⟩
  by_cases hjm : j = m
  · subst hjm
    have e : ((cs.take (16 * j) ++ c ++ cs.drop (16 * j + 16)).drop (16 * j)).take 16 = c := by
      rw [List.append_assoc, List.drop_append_of_le_length (by simp [hl]; omega), List.drop_of_length_le (by simp; omega), List.nil_append, List.take_append_of_le_length (by omega), List.take_of_length_le (by omega)]
    rw [e]; exact hP
  · have e : ((cs.take (16 * m) ++ c ++ cs.drop (16 * m + 16)).drop (16 * j)).take 16 = (cs.drop (16 * j)).take 16 := by
      rw [List.append_assoc, List.drop_append_of_le_length (by simp [hl]; omega), List.take_append_of_le_length (by simp [hl]; omega), List.drop_take, List.take_take, Nat.min_eq_left (by omega)]
    rw [e]; exact isT_at h (by omega)
theorem i5_ : (Try.prog.info? 5).map (·.size) = some 1 := by kernel_rfl
theorem uA2 : Try.prog.underlying 97 = some (.array 2 5) := by kernel_rfl
theorem uTab : Try.prog.underlying 94 = some (.array 16 91) := by kernel_rfl
section
variable {w : World} {o : Oper} {ev : Operand → Value} {R : Value → World → Prop} {n m : Nat} {P : P7}
theorem ld_T (hR : RV w n 94 (fun u => isT u m P)) (j : Nat) (hj : j < m) (hm : m ≤ 16) (p : Operand) (ho : o.op = .load 91 p) (hx : ev p = .pointer (some ⟨n, j * 16, none⟩)) (h : ∀ u, isP u (Pt.mul j P) → R u w) : Gives Try.prog R ((execOp ev o).run Try.prog w) := by
  obtain ⟨cs, h1, h2⟩ := hR
  obtain ⟨fs, hu⟩ := uWd
  have hl : ((cs.drop (j * 16)).take 16).length = 16 := by have := isT_len h2; simp; omega
  refine give_load_part _ p ho n (j * 16) hx h1 ((cs.drop (j * 16)).take 16) (by rw [hl]) _ hu rfl (by rw [hl]; exact iWd) (h _ ?_)
  rw [Nat.mul_comm]
  exact isT_at h2 hj
theorem st_T {cs : List Value} (hR : Row w n 94 cs) (ht : isT (.agg cs.toArray) m P) (hm : m < 16) (p q : Operand) (ho : o.op = .store 91 p q) (hx : ev p = .pointer (some ⟨n, m * 16, none⟩)) (hy : isP (ev q) (Pt.mul m P))
    (h : ∀ w' cs', Row w' n 94 cs' → isT (.agg (List.toArray cs')) (m + 1) P → Keep [n] w w' → R undef w') : Gives Try.prog R ((execOp ev o).run Try.prog w) := by
  obtain ⟨X, Y, Z, T, hw, hr⟩ := hy
  obtain ⟨c, h1, h2, h3, h4⟩ := isW_cells hw
  have hl := isT_len ht
  refine give_store_part _ p q ho n (m * 16) c hx h1 hR (by rw [h2]; exact iWd) (by omega) h3 fun w' hr' hk => h w' _ hr' ?_ hk
  rw [h2, Nat.mul_comm]
  exact isT_put ht hm (by rw [Array.length_toList]; exact h2) ⟨X, Y, Z, T, h4, hr⟩
end
theorem one_b : (#[.int .u8 1, .int .u8 0, .int .u8 0, .int .u8 0, .int .u8 0, .int .u8 0, .int .u8 0, .int .u8 0, .int .u8 0, .int .u8 0, .int .u8 0, .int .u8 0, .int .u8 0, .int .u8 0, .int .u8 0, .int .u8 0, .int .u8 0, .int .u8 0, .int .u8 0, .int .u8 0, .int .u8 0, .int .u8 0, .int .u8 0, .int .u8 0, .int .u8 0, .int .u8 0, .int .u8 0, .int .u8 0, .int .u8 0, .int .u8 0, .int .u8 0, .int .u8 0] : Array Value) = bcells (nb 1) := by
  rw [bcells_def]
  kernel_rfl
theorem and15 (b : UInt8) : (b &&& 15).toNat = b.toNat % 16 := by
  rw [UInt8.toNat_and]
  exact Nat.and_two_pow_sub_one_eq_mod b.toNat 4
theorem ld_byte {w : World} {o : Oper} {ev : Operand → Value} {R : Value → World → Prop} {n : Nat} {f : Nat → UInt8} (hR : RV w n 22 (fun u => u = .agg (bcells f))) {m : Nat} (hm : m < 32) (p : Operand) (ho : o.op = .load 5 p) (hx : ev p = .pointer (some ⟨n, m * 1, none⟩)) (h : ∀ u, u = .int .u8 (n8 (f m)) → R u w) : Gives Try.prog R ((execOp ev o).run Try.prog w) := by
  obtain ⟨cs, h1, h2⟩ := hR
  rw [bL_of h2] at h1
  refine give_load_cell0 _ p ho n (m * 1) hx h1 (.int .u8 (n8 (f m))) ?_ _ u5_ rfl (h _ rfl)
  rw [Nat.mul_one, Array.getElem?_toList]
  exact bcells_get f hm
theorem times_one {f g : Nat → UInt8} {P : P7} {m : Nat} (hPx : tf (V f) = P.x) (hPy : tf (V g) = P.y) (h : (beqb f (fun _ => 0) && beqb g (nb 1)) = true) : Pt.mul m P = P ∧ pc f g = pc (fb P.x) (fb P.y) := by
  rw [Bool.and_eq_true] at h
  have e1 : bcells f = bcells (fun _ => 0) := beqb_bcells h.1
  have e2 : bcells g = bcells (nb 1) := beqb_bcells h.2
  have v1 : V f = V (fb 0) := bsum_congr 32 (by rw [fb_0]; exact (beqb_iff _ _).1 h.1)
  have v2 : V g = V (fb 1) := bsum_congr 32 (by rw [fb_1]; exact (beqb_iff _ _).1 h.2)
  rw [v1, tf_V_fb] at hPx
  rw [v2, tf_V_fb] at hPy
  have hP : P = Pt.zero C7 := Pt.ext_ hPx.symm hPy.symm
  refine ⟨by rw [hP, Pt.mul_zero], ?_⟩
  rw [← hPx, ← hPy, fb_0, fb_1, pc_eq, pc_eq, e1, e2]
def plan_50_0 : List Plan := [⟨[], []⟩, ⟨[], []⟩, ⟨[], []⟩, ⟨[], []⟩]
def plan_50_3 : List Plan := [⟨[], []⟩, ⟨[], []⟩, ⟨[1], [(18, 1)]⟩, ⟨[0, 1, 2], [(17, 0), (19, 2)]⟩]
def plan_50_5 : List Plan := [⟨[], []⟩]
def plan_50_6 : List Plan := [⟨[], []⟩, ⟨[0], []⟩, ⟨[0, 1], [(22, 0), (23, 1)]⟩]
def plan_50_11 : List Plan := [⟨[], []⟩, ⟨[], []⟩, ⟨[0, 1], [(37, 0), (8, 1)]⟩]
def plan_50_15 : List Plan := [⟨[], []⟩, ⟨[0], [(42, 0)]⟩, ⟨[0, 1], [(43, 1)]⟩, ⟨[0, 1, 2], [(44, 2)]⟩, ⟨[], []⟩, ⟨[4], [(46, 4)]⟩, ⟨[4, 5], [(47, 5)]⟩, ⟨[4, 5, 6], [(48, 6)]⟩, ⟨[0, 1, 2, 3, 4, 5, 6, 7], [(45, 3), (49, 7)]⟩, ⟨[], []⟩]
def plan_50_17 : List Plan := [⟨[], []⟩, ⟨[0], [(53, 0)]⟩]
def plan_50_18 : List Plan := [⟨[], []⟩, ⟨[0], [(54, 0)]⟩, ⟨[0, 1], [(55, 1)]⟩, ⟨[0, 1, 2], [(56, 2)]⟩, ⟨[0, 1, 2, 3], [(57, 3)]⟩, ⟨[], []⟩, ⟨[5], [(59, 5)]⟩, ⟨[5, 6], [(60, 6)]⟩, ⟨[0, 1, 2, 3, 4, 5, 6, 7], [(58, 4), (61, 7)]⟩, ⟨[0, 1, 2, 3, 4, 5, 6, 7, 8], [(62, 8)]⟩]
def plan_50_4 : List Plan := [⟨[], []⟩, ⟨[0], [(21, 0)]⟩, ⟨[0, 1], []⟩]
def plan_50_10 : List Plan := [⟨[], []⟩, ⟨[], []⟩, ⟨[1], [(29, 1)]⟩, ⟨[1, 2], [(30, 2)]⟩, ⟨[1, 2, 3], [(31, 3)]⟩, ⟨[], []⟩, ⟨[5], [(33, 5)]⟩, ⟨[1, 2, 3, 4, 5, 6], [(32, 4), (34, 6)]⟩, ⟨[0, 1, 2, 3, 4, 5, 6, 7], [(28, 0)]⟩, ⟨[0, 1, 2, 3, 4, 5, 6, 7, 8], [(35, 7), (36, 8)]⟩]
def plan_50_20 : List Plan := [⟨[], []⟩, ⟨[0], [(64, 0)]⟩, ⟨[0, 1], [(65, 1)]⟩, ⟨[0, 1, 2], []⟩]
set_option maxRecDepth 20000 in
set_option maxHeartbeats 8000000 in
theorem times_on {f g k : Nat → UInt8} {P : P7} (hPx : tf (V f) = P.x) (hPy : tf (V g) = P.y) (w : World) :
    Calls Try.prog 50 #[.agg (bcells k), .agg (pc f g)] w fun e w' => e = .returned (.tuple #[.agg (pc (fb (Pt.mul (V k) P).x) (fb (Pt.mul (V k) P).y)), .nilIface]) ∧ Ext w w' := by
  obtain ⟨N, hN⟩ : ∃ N, N = V k := ⟨_, rfl⟩
  have hNb : Hid (∀ i, i < 32 → N / 2 ^ (8 * i) % 256 = (k i).toNat) := Lib.hid (fun i hi => by rw [hN]; exact V_byte k hi)
  have hN0 : N / 2 ^ (8 * 32) = 0 := Nat.div_eq_of_lt (by rw [hN]; exact bsum_lt k 32)
  rw [← hN]
  clear hN
  obtain ⟨c, hc⟩ : ∃ c, c = (beqb f (fun _ => 0) && beqb g (nb 1)) := ⟨_, rfl⟩
  have hc' : Hid (c = true → Pt.mul N P = P ∧ pc f g = pc (fb P.x) (fb P.y)) := Lib.hid (fun h => times_one hPx hPy (hc ▸ h))
  replace hc := Lib.hid hc
  go_enter Try.func50, Try.ntmps50
  have hx : Ext w w := Ext.refl w
  go_upto_region 0 with fail
  have hok : TrsOk [] w.heap.size ([⟨some 0, 0, 22, none, fun cs => (Value.agg (List.toArray cs)) = .agg (bcells (k)), fun _ => True⟩, ⟨some 1, 0, 43, none, fun cs => (Value.agg (List.toArray cs)) = .agg (pc (f) (g)), fun _ => True⟩, ⟨some 2, 0, 43, none, fun cs => cs.length = 64, fun _ => True⟩] : List Trk) := ⟨by simp, by simp, by simp, by simp⟩
  refine wp_region_text (Inv [] (fun j u => match j with | 3 => u = .nilIface | _ => True) [⟨some 0, 0, 22, none, fun cs => (Value.agg (List.toArray cs)) = .agg (bcells (k)), fun _ => True⟩, ⟨some 1, 0, 43, none, fun cs => (Value.agg (List.toArray cs)) = .agg (pc (f) (g)), fun _ => True⟩, ⟨some 2, 0, 43, none, fun cs => cs.length = 64, fun _ => True⟩] w) plan_50_0 [(2, 0), (3, 1), (4, 2), (5, 3)] 66 rfl (by kernel_rfl) (Inv.start0 hok (by simp)) ⟨?_, ?_, ?_, ?_, trivial⟩ ?_
  · intro L v w hL hD hC hI
    refine ⟨fun _ => ?_, fun hw => by cases hw⟩
    refine Inv.alloc_step hok hI hL ⟨some 0, 0, 22, none, fun cs => (Value.agg (List.toArray cs)) = .agg (bcells (k)), fun _ => True⟩ (by simp) rfl (by simp) (by intro s hs; cases hs) ?_
    rw [show readsOf plan_50_0 0 = [] from rfl]
    exact ⟨trivial, rfl, (bcells k).toList, by first | rfl | (rw [Array.toArray_toList]; rfl), by show (Value.agg _ = Value.agg _); rw [Array.toArray_toList]⟩
  · intro L v w hL hD hC hI
    refine ⟨fun _ => ?_, fun hw => by cases hw⟩
    refine Inv.alloc_step hok hI hL ⟨some 1, 0, 43, none, fun cs => (Value.agg (List.toArray cs)) = .agg (pc (f) (g)), fun _ => True⟩ (by simp) rfl (by simp) (by intro s hs; cases hs) ?_
    rw [show readsOf plan_50_0 1 = [] from rfl]
    exact ⟨trivial, rfl, pcL f g, rfl, by show (Value.agg _ = Value.agg _); rfl⟩
  · intro L v w hL hD hC hI
    refine ⟨fun _ => ?_, fun hw => by cases hw⟩
    refine Inv.alloc_step hok hI hL ⟨some 2, 0, 43, none, fun cs => cs.length = 64, fun _ => True⟩ (by simp) rfl (by simp) (by intro s hs; cases hs) ?_
    rw [show readsOf plan_50_0 2 = [] from rfl]
    go_simp
    first | exact ⟨rfl, _, rfl, by first | rfl | trivial⟩ | exact ⟨trivial, rfl, _, rfl, by first | rfl | trivial⟩ | exact ⟨rfl, pcL (fun _ => 0) (fun _ => 0), rfl, pcL_len _ _⟩ | exact ⟨trivial, rfl, pcL (fun _ => 0) (fun _ => 0), rfl, pcL_len _ _⟩ | exact ⟨rfl, (bcells fun _ => 0).toList, by rw [Array.toArray_toList], by simp⟩ | exact ⟨trivial, rfl, (bcells fun _ => 0).toList, by rw [Array.toArray_toList], by simp⟩
  · intro L v w hL hD hC hI
    refine ⟨fun _ => ?_, fun hw => by cases hw⟩
    refine hI.val_step hL (by simp) ?_
    rw [show readsOf plan_50_0 3 = [] from rfl]
    first | exact ⟨rfl, Ext.refl _⟩ | (go_simp; exact ⟨rfl, Ext.refl _⟩)
  intro L v1 W1 hL hI
  obtain ⟨bk, cs, hb_bk, lo_bk, hr, hn, ho⟩ := hI.row_made ⟨some 0, 0, 22, none, fun cs => (Value.agg (List.toArray cs)) = .agg (bcells (k)), fun _ => True⟩ (by simp) 0 rfl (hL 0 (by decide))
  have R_bk : RV W1 bk 22 (fun u => u = .agg (bcells (k))) := ⟨cs, hr, ho (by intro s hs; cases hs)⟩
  clear hr hn ho
  obtain ⟨b, cs, hb_b, lo_b, hr, hn, ho⟩ := hI.row_made ⟨some 1, 0, 43, none, fun cs => (Value.agg (List.toArray cs)) = .agg (pc (f) (g)), fun _ => True⟩ (by simp) 1 rfl (hL 1 (by decide))
  have R_b : RV W1 b 43 (fun u => u = .agg (pc (f) (g))) := ⟨cs, hr, ho (by intro s hs; cases hs)⟩
  clear hr hn ho
  obtain ⟨r, cs, hb_r, lo_r, hr, hn, ho⟩ := hI.row_made ⟨some 2, 0, 43, none, fun cs => cs.length = 64, fun _ => True⟩ (by simp) 2 rfl (hL 2 (by decide))
  have R_r : RL W1 r 43 64 := ⟨cs, hr, ho (by intro s hs; cases hs)⟩
  clear hr hn ho
  have ne_bk_b : bk ≠ b := fun e => hI.apart ⟨some 0, 0, 22, none, fun cs => (Value.agg (List.toArray cs)) = .agg (bcells (k)), fun _ => True⟩ (by simp) ⟨some 1, 0, 43, none, fun cs => (Value.agg (List.toArray cs)) = .agg (pc (f) (g)), fun _ => True⟩ (by simp) 0 1 rfl rfl (by decide) (hL 0 (by decide)) (hL 1 (by decide)) (by rw [hb_bk, hb_b, e])
  have ne_bk_r : bk ≠ r := fun e => hI.apart ⟨some 0, 0, 22, none, fun cs => (Value.agg (List.toArray cs)) = .agg (bcells (k)), fun _ => True⟩ (by simp) ⟨some 2, 0, 43, none, fun cs => cs.length = 64, fun _ => True⟩ (by simp) 0 2 rfl rfl (by decide) (hL 0 (by decide)) (hL 2 (by decide)) (by rw [hb_bk, hb_r, e])
  have ne_b_r : b ≠ r := fun e => hI.apart ⟨some 1, 0, 43, none, fun cs => (Value.agg (List.toArray cs)) = .agg (pc (f) (g)), fun _ => True⟩ (by simp) ⟨some 2, 0, 43, none, fun cs => cs.length = 64, fun _ => True⟩ (by simp) 1 2 rfl rfl (by decide) (hL 1 (by decide)) (hL 2 (by decide)) (by rw [hb_b, hb_r, e])
  have hx' : Ext w W1 := hx.trans hI.keep.to_ext
  have lt_bk : bk < W1.heap.size := R_bk.lt
  have bs_bk : w.heap.size ≤ bk := Nat.le_trans hx.size lo_bk
  have lt_b : b < W1.heap.size := R_b.lt
  have bs_b : w.heap.size ≤ b := Nat.le_trans hx.size lo_b
  have lt_r : r < W1.heap.size := R_r.lt
  have bs_r : w.heap.size ≤ r := Nat.le_trans hx.size lo_r
  have hs_5_0 : (v1 3) = .nilIface := hI.val 3 (hL 3 (by decide))
  clear hx hI hL hok L
  have hx := hx'
  clear hx'
  simp only [putP, Act.put, List.setIfInBounds_toArray, List.set_cons_zero, List.set_cons_succ, hb_bk, hb_b, hb_r, hs_5_0]
  have h : C7.on (tf (V f)) (tf (V g)) := by rw [hPx, hPy]; exact P.on
  go_upto_region 3 with (first | ((with_reducible refine wpl_P R_b ?_ (.tmp 3) ?_ ?_ ?_); rfl; rfl; rfl) | (go_at_call 29; (with_reducible refine (is_true h _).mono ?_); rintro e wq ⟨rfl, hxq⟩))
  replace R_bk := R_bk.ext hxq
  replace R_b := R_b.ext hxq
  replace R_r := R_r.ext hxq
  replace lt_bk := Nat.lt_of_lt_of_le lt_bk hxq.size
  replace lt_b := Nat.lt_of_lt_of_le lt_b hxq.size
  replace lt_r := Nat.lt_of_lt_of_le lt_r hxq.size
  replace hx := hx.trans hxq
  have hok : TrsOk [] wq.heap.size ([] : List Trk) := ⟨by simp, by simp, by simp, by simp⟩
  refine wp_region_text (Inv [] (fun j u => match j with | 0 => u = .agg (pc (f) (g)) | 1 => u = .agg (bcells (nb 1)) | 2 => u = .agg (pc (fun _ => 0) (nb 1)) | 3 => u = .bool (beqb (f) (fun _ => 0) && beqb (g) (nb 1)) | _ => True) [] wq) plan_50_3 [(17, 0), (18, 1), (19, 2), (20, 3)] 66 rfl (by kernel_rfl) (Inv.start0 hok (by simp)) ⟨?_, ?_, ?_, ?_, trivial⟩ ?_
  · intro L v w hL hD hC hI
    refine ⟨fun _ => ?_, fun hw => by cases hw⟩
    refine hI.val_step hL (by simp) ?_
    rw [show readsOf plan_50_3 0 = [] from rfl]
    exact ld_P (R_b.keep hI.keep (by simp)) _ rfl rfl fun u hu => ⟨hu, Ext.refl _⟩
  · intro L v w hL hD hC hI
    refine ⟨fun _ => ?_, fun hw => by cases hw⟩
    refine hI.val_step hL (by simp) ?_
    rw [show readsOf plan_50_3 1 = [] from rfl]
    exact give_build _ _ rfl #[.int .u8 1, .int .u8 0, .int .u8 0, .int .u8 0, .int .u8 0, .int .u8 0, .int .u8 0, .int .u8 0, .int .u8 0, .int .u8 0, .int .u8 0, .int .u8 0, .int .u8 0, .int .u8 0, .int .u8 0, .int .u8 0, .int .u8 0, .int .u8 0, .int .u8 0, .int .u8 0, .int .u8 0, .int .u8 0, .int .u8 0, .int .u8 0, .int .u8 0, .int .u8 0, .int .u8 0, .int .u8 0, .int .u8 0, .int .u8 0, .int .u8 0, .int .u8 0] (by kernel_rfl) ⟨congrArg Value.agg one_b, Ext.refl _⟩
  · intro L v w hL hD hC hI
    refine ⟨fun _ => ?_, fun hw => by cases hw⟩
    have h1 : (v 1) = .agg (bcells (nb 1)) := hI.val 1 (hD 1 (by decide))
    refine hI.val_step hL (by simp) ?_
    rw [show readsOf plan_50_3 2 = [(18, 1)] from rfl]
    simp only [putP, Act.put, List.setIfInBounds_toArray, List.set_cons_zero, List.set_cons_succ, h1]
    go_simp
    exact ⟨rfl, Ext.refl _⟩
  · intro L v w hL hD hC hI
    refine ⟨fun _ => ?_, fun hw => by cases hw⟩
    have h0 : (v 0) = .agg (pc (f) (g)) := hI.val 0 (hD 0 (by decide))
    have h2 : (v 2) = .agg (pc (fun _ => 0) (nb 1)) := hI.val 2 (hD 2 (by decide))
    refine hI.val_step hL (by simp) ?_
    rw [show readsOf plan_50_3 3 = [(17, 0), (19, 2)] from rfl]
    simp only [putP, Act.put, List.setIfInBounds_toArray, List.set_cons_zero, List.set_cons_succ, h0, h2]
    go_simp
    exact ⟨rfl, Ext.refl _⟩
  intro L v2 W2 hL hI
  replace R_bk := R_bk.keep hI.keep (by simp)
  replace R_b := R_b.keep hI.keep (by simp)
  replace R_r := R_r.keep hI.keep (by simp)
  replace lt_bk := Nat.lt_of_lt_of_le lt_bk hI.keep.size
  replace lt_b := Nat.lt_of_lt_of_le lt_b hI.keep.size
  replace lt_r := Nat.lt_of_lt_of_le lt_r hI.keep.size
  have hx' : Ext w W2 := hx.trans hI.keep.to_ext
  have hs_20_3 : (v2 3) = .bool (beqb (f) (fun _ => 0) && beqb (g) (nb 1)) := hI.val 3 (hL 3 (by decide))
  clear hx hI hL hok L
  have hx := hx'
  clear hx'
  simp only [putP, Act.put, List.setIfInBounds_toArray, List.set_cons_zero, List.set_cons_succ, hs_20_3]
  simp only [← hc.out]
  clear hc hs_20_3
  cases hcc : c
  rotate_left
  · obtain ⟨cx1, cx2⟩ := hc'.out hcc
    clear hcc hc'
    go_upto_region 4 with fail
    have hok : TrsOk [r] W2.heap.size ([⟨none, r, 43, some 1, fun cs => cs.length = 64, fun cs => (Value.agg (List.toArray cs)) = .agg (pc (f) (g))⟩] : List Trk) := ⟨by simp [R_r.lt], by simp, by simp, by simp⟩
    refine wp_region_text (Inv [r] (fun j u => match j with | 0 => u = .agg (pc (f) (g)) | 2 => u = .nilIface | _ => True) [⟨none, r, 43, some 1, fun cs => cs.length = 64, fun cs => (Value.agg (List.toArray cs)) = .agg (pc (f) (g))⟩] W2) plan_50_4 [(21, 0), (5, 2)] 66 rfl (by kernel_rfl) (Inv.start0 hok (by
        simp only [List.forall_mem_cons, List.not_mem_nil, false_implies, implies_true, and_true]
        exact fun _ => R_r)) ⟨?_, ?_, ?_, trivial⟩ ?_
    · intro L v w hL hD hC hI
      refine ⟨fun _ => ?_, fun hw => by cases hw⟩
      refine hI.val_step hL (by simp) ?_
      rw [show readsOf plan_50_4 0 = [] from rfl]
      exact ld_P (R_b.keep hI.keep (by simp [ne_b_r, Ne.symm ne_b_r])) _ rfl rfl fun u hu => ⟨hu, Ext.refl _⟩
    · intro L v w hL hD hC hI
      refine ⟨fun _ => ?_, fun hw => by cases hw⟩
      have h0 : (v 0) = .agg (pc (f) (g)) := hI.val 0 (hD 0 (by decide))
      refine Inv.store_step hok hI hL ⟨none, r, 43, some 1, fun cs => cs.length = 64, fun cs => (Value.agg (List.toArray cs)) = .agg (pc (f) (g))⟩ (by simp) rfl (by simp) (by intro k hk; cases hk) ?_
      intro n cs hb hR hold
      change n = r at hb
      subst hb
      rw [show readsOf plan_50_4 1 = [(21, 0)] from rfl]
      exact st_P hR hold _ _ rfl rfl h0 fun w' cs' hr he hk => ⟨trivial, hk, cs', hr, he⟩
    · intro L v w hL hD hC hI
      refine ⟨fun _ => ?_, fun hw => by cases hw⟩
      refine hI.val_step hL (by simp) ?_
      rw [show readsOf plan_50_4 2 = [] from rfl]
      first | exact ⟨rfl, Ext.refl _⟩ | (go_simp; exact ⟨rfl, Ext.refl _⟩)
    intro L v3 W3 hL hI
    have N_r : RV W3 r 43 (fun u => u = .agg (pc (f) (g))) := hI.row_new ⟨none, r, 43, some 1, fun cs => cs.length = 64, fun cs => (Value.agg (List.toArray cs)) = .agg (pc (f) (g))⟩ (by simp) rfl 1 rfl (hL 1 (by decide))
    replace R_bk := R_bk.keep hI.keep (by simp [ne_bk_r, Ne.symm ne_bk_r])
    replace R_b := R_b.keep hI.keep (by simp [ne_b_r, Ne.symm ne_b_r])
    clear R_r
    have R_r := N_r
    clear N_r
    replace lt_bk := Nat.lt_of_lt_of_le lt_bk hI.keep.size
    replace lt_b := Nat.lt_of_lt_of_le lt_b hI.keep.size
    replace lt_r := Nat.lt_of_lt_of_le lt_r hI.keep.size
    have hx' : Ext w W3 := Ext.keep_ hx hI.keep (by simp only [List.forall_mem_cons, List.not_mem_nil, false_implies, implies_true, and_true]; exact bs_r)
    have hs_5_4 : (v3 2) = .nilIface := hI.val 2 (hL 2 (by decide))
    clear hx hI hL hok L
    have hx := hx'
    clear hx'
    simp only [putP, Act.put, List.setIfInBounds_toArray, List.set_cons_zero, List.set_cons_succ, hs_5_4]
    go_wp2
    refine bodyPost_ret (results_P2 rfl _ R_r rfl) rfl ?_
    refine ⟨?_, hx⟩
    rw [cx1, ← cx2]
    rfl
  · clear hc' hcc
    go_upto_region 5 with fail
    have hok : TrsOk [] W2.heap.size ([⟨some 0, 0, 94, none, fun cs => isT (Value.agg (List.toArray cs)) (0) (P), fun _ => True⟩] : List Trk) := ⟨by simp, by simp, by simp, by simp⟩
    refine wp_region_text (Inv [] (fun _ _ => True) [⟨some 0, 0, 94, none, fun cs => isT (Value.agg (List.toArray cs)) (0) (P), fun _ => True⟩] W2) plan_50_5 [(6, 0)] 66 rfl (by kernel_rfl) (Inv.start0 hok (by simp)) ⟨?_, trivial⟩ ?_
    · intro L v w hL hD hC hI
      refine ⟨fun _ => ?_, fun hw => by cases hw⟩
      refine Inv.alloc_step hok hI hL ⟨some 0, 0, 94, none, fun cs => isT (Value.agg (List.toArray cs)) (0) (P), fun _ => True⟩ (by simp) rfl (by simp) (by intro s hs; cases hs) ?_
      rw [show readsOf plan_50_5 0 = [] from rfl]
      go_simp
      first | exact ⟨rfl, _, rfl, isT_zero _ rfl⟩ | exact ⟨trivial, rfl, _, rfl, isT_zero _ rfl⟩
    intro L v3 W3 hL hI
    obtain ⟨t, cs, hb_t, lo_t, hr, hn, ho⟩ := hI.row_made ⟨some 0, 0, 94, none, fun cs => isT (Value.agg (List.toArray cs)) (0) (P), fun _ => True⟩ (by simp) 0 rfl (hL 0 (by decide))
    have R_t : RV W3 t 94 (fun u => isT u (0) (P)) := ⟨cs, hr, ho (by intro s hs; cases hs)⟩
    clear hr hn ho
    replace R_bk := R_bk.keep hI.keep (by simp)
    replace R_b := R_b.keep hI.keep (by simp)
    replace R_r := R_r.keep hI.keep (by simp)
    have ne_bk_t : bk ≠ t := Nat.ne_of_lt (Nat.lt_of_lt_of_le lt_bk lo_t)
    have ne_b_t : b ≠ t := Nat.ne_of_lt (Nat.lt_of_lt_of_le lt_b lo_t)
    have ne_r_t : r ≠ t := Nat.ne_of_lt (Nat.lt_of_lt_of_le lt_r lo_t)
    replace lt_bk := Nat.lt_of_lt_of_le lt_bk hI.keep.size
    replace lt_b := Nat.lt_of_lt_of_le lt_b hI.keep.size
    replace lt_r := Nat.lt_of_lt_of_le lt_r hI.keep.size
    have hx' : Ext w W3 := hx.trans hI.keep.to_ext
    have lt_t : t < W3.heap.size := R_t.lt
    have bs_t : w.heap.size ≤ t := Nat.le_trans hx.size lo_t
    clear hx hI hL hok L
    have hx := hx'
    clear hx'
    simp only [putP, Act.put, List.setIfInBounds_toArray, List.set_cons_zero, List.set_cons_succ, hb_t]
    go_upto_region 6 with fail
    have hok : TrsOk [t] W3.heap.size ([⟨none, t, 94, some 2, fun cs => isT (Value.agg (List.toArray cs)) (0) (P), fun cs => isT (Value.agg (List.toArray cs)) (0 + 1) (P)⟩] : List Trk) := ⟨by simp [R_t.lt], by simp, by simp, by simp⟩
    refine wp_region_text (Inv [t] (fun j u => match j with | 0 => isP u ((Pt.zero C7)) | 1 => u = .pointer (some ⟨t, 0, none⟩) | _ => True) [⟨none, t, 94, some 2, fun cs => isT (Value.agg (List.toArray cs)) (0) (P), fun cs => isT (Value.agg (List.toArray cs)) (0 + 1) (P)⟩] W3) plan_50_6 [(22, 0), (23, 1)] 66 rfl (by kernel_rfl) (Inv.start0 hok (by
        simp only [List.forall_mem_cons, List.not_mem_nil, false_implies, implies_true, and_true]
        exact fun _ => R_t)) ⟨?_, ?_, ?_, trivial⟩ ?_
    · intro L v w hL hD hC hI
      refine ⟨fun _ => ?_, fun hw => by cases hw⟩
      refine hI.val_step hL (by simp) ?_
      rw [show readsOf plan_50_6 0 = [] from rfl]
      refine give_call _ _ _ _ rfl rfl Try.func85 (by kernel_rfl) (by kernel_rfl) ?_
      refine Calls.mono (nought_any w) ?_
      rintro e w' ⟨r, rfl, hr, hx⟩
      exact ⟨r, rfl, ⟨_, _, _, _, hr, Rep.zero C7⟩, hx⟩
    · intro L v w hL hD hC hI
      refine ⟨fun _ => ?_, fun hw => by cases hw⟩
      refine hI.val_step hL (by simp) ?_
      rw [show readsOf plan_50_6 1 = [] from rfl]
      exact give_index _ _ _ _ rfl t 0 16 16 .i64 rfl rfl uTab (by decide) iWd ⟨rfl, Ext.refl _⟩
    · intro L v w hL hD hC hI
      refine ⟨fun _ => ?_, fun hw => by cases hw⟩
      have h0 : isP (v 0) ((Pt.zero C7)) := hI.val 0 (hD 0 (by decide))
      have h1 : (v 1) = .pointer (some ⟨t, 0, none⟩) := hI.val 1 (hD 1 (by decide))
      refine Inv.store_step hok hI hL ⟨none, t, 94, some 2, fun cs => isT (Value.agg (List.toArray cs)) (0) (P), fun cs => isT (Value.agg (List.toArray cs)) (0 + 1) (P)⟩ (by simp) rfl (by simp) (by intro k hk; cases hk) ?_
      intro n cs hb hR hold
      change n = t at hb
      subst hb
      rw [show readsOf plan_50_6 2 = [(22, 0), (23, 1)] from rfl]
      exact st_T hR hold (by decide) _ _ rfl h1 h0 fun w' cs' hr he hk => ⟨trivial, hk, cs', hr, he⟩
    intro L v4 W4 hL hI
    have N_t : RV W4 t 94 (fun u => isT u (0 + 1) (P)) := hI.row_new ⟨none, t, 94, some 2, fun cs => isT (Value.agg (List.toArray cs)) (0) (P), fun cs => isT (Value.agg (List.toArray cs)) (0 + 1) (P)⟩ (by simp) rfl 2 rfl (hL 2 (by decide))
    replace R_bk := R_bk.keep hI.keep (by simp [ne_bk_t, Ne.symm ne_bk_t])
    replace R_b := R_b.keep hI.keep (by simp [ne_b_t, Ne.symm ne_b_t])
    replace R_r := R_r.keep hI.keep (by simp [ne_r_t, Ne.symm ne_r_t])
    clear R_t
    have R_t := N_t
    clear N_t
    replace lt_bk := Nat.lt_of_lt_of_le lt_bk hI.keep.size
    replace lt_b := Nat.lt_of_lt_of_le lt_b hI.keep.size
    replace lt_r := Nat.lt_of_lt_of_le lt_r hI.keep.size
    replace lt_t := Nat.lt_of_lt_of_le lt_t hI.keep.size
    have hx' : Ext w W4 := Ext.keep_ hx hI.keep (by simp only [List.forall_mem_cons, List.not_mem_nil, false_implies, implies_true, and_true]; exact bs_t)
    clear hx hI hL hok L
    have hx := hx'
    clear hx'
    simp only [putP, Act.put, List.setIfInBounds_toArray, List.set_cons_zero, List.set_cons_succ]
    go_upto_region 8 with fail
    go_loopw [7] (fun v7 wr => ∃ i : Nat, 1 ≤ i ∧ i ≤ 16 ∧ v7 = .int .i64 (i : Int) ∧ RV wr t 94 (fun u => isT u i P) ∧ Keep [t] W4 wr) (fun v7 _ => 16 - (intOf v7).toNat)
    case atStart => exact ⟨1, by decide, by decide, rfl, R_t, Keep.refl _ _⟩
    case round =>
      clear R_t
      obtain ⟨i, hi1, hi16, rfl, R_t, hK⟩ := hrel
      replace R_bk := R_bk.keep hK (by simp [ne_bk_t, Ne.symm ne_bk_t])
      replace R_b := R_b.keep hK (by simp [ne_b_t, Ne.symm ne_b_t])
      replace R_r := R_r.keep hK (by simp [ne_r_t, Ne.symm ne_r_t])
      replace lt_bk := Nat.lt_of_lt_of_le lt_bk hK.size
      replace lt_b := Nat.lt_of_lt_of_le lt_b hK.size
      replace lt_r := Nat.lt_of_lt_of_le lt_r hK.size
      replace lt_t := Nat.lt_of_lt_of_le lt_t hK.size
      replace hx := Ext.keep_ hx hK (by simpa using bs_t)
      by_cases hi : i < 16
      · have hiI : (i : Int) < 16 := by omega
        obtain ⟨jj, hj⟩ : ∃ jj, i = jj + 1 := ⟨i - 1, by omega⟩
        have hj16 : jj < 16 := by omega
        have hji : jj < i := by omega
        have hv1 : IntKind.i64.wrap ((i : Int) - 1) = (jj : Int) := by rw [IntWalk.i64_in _ (by omega)]; omega
        have hv2 : IntKind.i64.wrap ((i : Int) + 1) = (i : Int) + 1 := IntWalk.i64_in _ (by omega)
        have hms : 16 - (i + 1) < 16 - i := by omega
        replace hj := Lib.hid hj
        go_upto_region 10 with fail
        have hok : TrsOk [t] wr.heap.size ([⟨none, t, 94, some 9, fun cs => isT (Value.agg (List.toArray cs)) (i) (P), fun cs => isT (Value.agg (List.toArray cs)) (i + 1) (P)⟩] : List Trk) := ⟨by simp [R_t.lt], by simp, by simp, by simp⟩
        refine wp_region_plan (Inv [t] (fun j u => match j with | 0 => u = .int .i64 (i : Int) | 1 => u = .int .i64 (i : Int) | 2 => u = .int .i64 (jj : Int) | 3 => u = .pointer (some ⟨t, jj * 16, none⟩) | 4 => isP u (Pt.mul jj P) | 5 => u = .agg (pc (f) (g)) | 6 => isP u (P) | 7 => isP u ((Pt.mul jj P).add (P)) | 8 => u = .pointer (some ⟨t, i * 16, none⟩) | _ => True) [⟨none, t, 94, some 9, fun cs => isT (Value.agg (List.toArray cs)) (i) (P), fun cs => isT (Value.agg (List.toArray cs)) (i + 1) (P)⟩] wr) plan_50_10 [(28, 0), (29, 1), (30, 2), (31, 3), (32, 4), (33, 5), (34, 6), (35, 7), (36, 8)] 66 (by kernel_rfl) rfl (by kernel_rfl) (Inv.start hok (by
            simp only [List.forall_mem_cons, List.not_mem_nil, false_implies, implies_true, and_true]
            exact fun _ => R_t)) ⟨?_, ?_, ?_, ?_, ?_, ?_, ?_, ?_, ?_, ?_, trivial⟩ ?_
        · intro L v w hL hD hC hI
          refine ⟨fun _ => ?_, fun hw => by cases hw⟩
          refine hI.val_step hL (by simp) ?_
          rw [show readsOf plan_50_10 0 = [] from rfl]
          first | exact ⟨rfl, Ext.refl _⟩ | (go_simp; exact ⟨rfl, Ext.refl _⟩)
        · intro L v w hL hD hC hI
          refine ⟨fun _ => ?_, fun hw => by cases hw⟩
          refine hI.val_step hL (by simp) ?_
          rw [show readsOf plan_50_10 1 = [] from rfl]
          first | exact ⟨rfl, Ext.refl _⟩ | (go_simp; exact ⟨rfl, Ext.refl _⟩)
        · intro L v w hL hD hC hI
          refine ⟨fun _ => ?_, fun hw => by cases hw⟩
          have h1 : (v 1) = .int .i64 (i : Int) := hI.val 1 (hD 1 (by decide))
          refine hI.val_step hL (by simp) ?_
          rw [show readsOf plan_50_10 2 = [(29, 1)] from rfl]
          simp only [putP, Act.put, List.setIfInBounds_toArray, List.set_cons_zero, List.set_cons_succ, h1]
          go_simp
          exact ⟨rfl, Ext.refl _⟩
        · intro L v w hL hD hC hI
          refine ⟨fun _ => ?_, fun hw => by cases hw⟩
          have h2 : (v 2) = .int .i64 (jj : Int) := hI.val 2 (hD 2 (by decide))
          refine hI.val_step hL (by simp) ?_
          rw [show readsOf plan_50_10 3 = [(30, 2)] from rfl]
          exact give_index _ _ _ _ rfl t jj 16 16 .i64 rfl h2 uTab hj16 iWd ⟨rfl, Ext.refl _⟩
        · intro L v w hL hD hC hI
          refine ⟨fun _ => ?_, fun hw => by cases hw⟩
          have h3 : (v 3) = .pointer (some ⟨t, jj * 16, none⟩) := hI.val 3 (hD 3 (by decide))
          refine hI.val_step hL (by simp) ?_
          rw [show readsOf plan_50_10 4 = [(31, 3)] from rfl]
          exact ld_T (hI.row_old ⟨none, t, 94, some 9, fun cs => isT (Value.agg (List.toArray cs)) (i) (P), fun cs => isT (Value.agg (List.toArray cs)) (i + 1) (P)⟩ (by simp) rfl (by intro s hs; cases hs; exact not_yet hC hL (by decide))) jj hji hi16 _ rfl h3 fun u hu => ⟨hu, Ext.refl _⟩
        · intro L v w hL hD hC hI
          refine ⟨fun _ => ?_, fun hw => by cases hw⟩
          refine hI.val_step hL (by simp) ?_
          rw [show readsOf plan_50_10 5 = [] from rfl]
          exact ld_P (R_b.keep hI.keep (by simp [ne_b_t, Ne.symm ne_b_t])) _ rfl rfl fun u hu => ⟨hu, Ext.refl _⟩
        · intro L v w hL hD hC hI
          refine ⟨fun _ => ?_, fun hw => by cases hw⟩
          have h5 : (v 5) = .agg (pc (f) (g)) := hI.val 5 (hD 5 (by decide))
          refine hI.val_step hL (by simp) ?_
          rw [show readsOf plan_50_10 6 = [(33, 5)] from rfl]
          refine give_call _ _ _ _ rfl rfl Try.func82 (by kernel_rfl) (by kernel_rfl) ?_
          refine Calls.mono (by have := cinP hPx hPy w; rwa [← h5] at this) ?_
          rintro e w' ⟨r, rfl, hr, hx⟩
          exact ⟨r, rfl, hr, hx⟩
        · intro L v w hL hD hC hI
          refine ⟨fun _ => ?_, fun hw => by cases hw⟩
          have h4 : isP (v 4) (Pt.mul jj P) := hI.val 4 (hD 4 (by decide))
          have h6 : isP (v 6) (P) := hI.val 6 (hD 6 (by decide))
          refine hI.val_step hL (by simp) ?_
          rw [show readsOf plan_50_10 7 = [(32, 4), (34, 6)] from rfl]
          refine give_call _ _ _ _ rfl rfl Try.func83 (by kernel_rfl) (by kernel_rfl) ?_
          refine Calls.mono (wplus_any h4 h6 w) ?_
          rintro e w' ⟨r, rfl, hr, hx⟩
          exact ⟨r, rfl, hr, hx⟩
        · intro L v w hL hD hC hI
          refine ⟨fun _ => ?_, fun hw => by cases hw⟩
          have h0 : (v 0) = .int .i64 (i : Int) := hI.val 0 (hD 0 (by decide))
          refine hI.val_step hL (by simp) ?_
          rw [show readsOf plan_50_10 8 = [(28, 0)] from rfl]
          exact give_index _ _ _ _ rfl t i 16 16 .i64 rfl h0 uTab hi iWd ⟨rfl, Ext.refl _⟩
        · intro L v w hL hD hC hI
          refine ⟨fun _ => ?_, fun hw => by cases hw⟩
          have h7 : isP (v 7) ((Pt.mul jj P).add (P)) := hI.val 7 (hD 7 (by decide))
          have h8 : (v 8) = .pointer (some ⟨t, i * 16, none⟩) := hI.val 8 (hD 8 (by decide))
          refine Inv.store_step hok hI hL ⟨none, t, 94, some 9, fun cs => isT (Value.agg (List.toArray cs)) (i) (P), fun cs => isT (Value.agg (List.toArray cs)) (i + 1) (P)⟩ (by simp) rfl (by simp) (by intro k hk; cases hk) ?_
          intro n cs hb hR hold
          change n = t at hb
          subst hb
          rw [show readsOf plan_50_10 9 = [(35, 7), (36, 8)] from rfl]
          exact st_T hR hold hi _ _ rfl h8 (by rw [hj.out]; exact h7) fun w' cs' hr he hk => ⟨trivial, hk, cs', hr, he⟩
        intro L v5 W5 hL hI
        have N_t : RV W5 t 94 (fun u => isT u (i + 1) (P)) := hI.row_new ⟨none, t, 94, some 9, fun cs => isT (Value.agg (List.toArray cs)) (i) (P), fun cs => isT (Value.agg (List.toArray cs)) (i + 1) (P)⟩ (by simp) rfl 9 rfl (hL 9 (by decide))
        replace R_bk := R_bk.keep hI.keep (by simp [ne_bk_t, Ne.symm ne_bk_t])
        replace R_b := R_b.keep hI.keep (by simp [ne_b_t, Ne.symm ne_b_t])
        replace R_r := R_r.keep hI.keep (by simp [ne_r_t, Ne.symm ne_r_t])
        clear R_t
        have R_t := N_t
        clear N_t
        replace lt_bk := Nat.lt_of_lt_of_le lt_bk hI.keep.size
        replace lt_b := Nat.lt_of_lt_of_le lt_b hI.keep.size
        replace lt_r := Nat.lt_of_lt_of_le lt_r hI.keep.size
        replace lt_t := Nat.lt_of_lt_of_le lt_t hI.keep.size
        have hx' : Ext w W5 := Ext.keep_ hx hI.keep (by simp only [List.forall_mem_cons, List.not_mem_nil, false_implies, implies_true, and_true]; exact bs_t)
        have hs_28_10 : (v5 0) = .int .i64 (i : Int) := hI.val 0 (hL 0 (by decide))
        have hs_29_10 : (v5 1) = .int .i64 (i : Int) := hI.val 1 (hL 1 (by decide))
        have hk10 := hI.keep
        clear hx hI hL hok L
        have hx := hx'
        clear hx'
        simp only [putP, Act.put, List.setIfInBounds_toArray, List.set_cons_zero, List.set_cons_succ, hs_28_10, hs_29_10]
        have hK2 := hK.same hk10
        clear hK hk10
        go_wp2
        exact ⟨⟨i + 1, by omega, hi, by go_num, R_t, ⟨hK2.os, hK2.tape, hK2.output, hK2.size, hK2.keep⟩⟩, by simpa [intOf] using hms⟩
      · obtain rfl : i = 16 := by omega
        clear hK hi hi1 hi16
        go_upto_region 11 with fail
        have hok : TrsOk [] wr.heap.size ([⟨some 1, 0, 91, some 2, fun cs => cs.length = 16, fun cs => isP (Value.agg (List.toArray cs)) ((Pt.zero C7))⟩] : List Trk) := ⟨by simp, by simp, by simp, by simp⟩
        refine wp_region_text (Inv [] (fun j u => match j with | 0 => isP u ((Pt.zero C7)) | _ => True) [⟨some 1, 0, 91, some 2, fun cs => cs.length = 16, fun cs => isP (Value.agg (List.toArray cs)) ((Pt.zero C7))⟩] wr) plan_50_11 [(37, 0), (8, 1)] 66 rfl (by kernel_rfl) (Inv.start0 hok (by simp)) ⟨?_, ?_, ?_, trivial⟩ ?_
        · intro L v w hL hD hC hI
          refine ⟨fun _ => ?_, fun hw => by cases hw⟩
          refine hI.val_step hL (by simp) ?_
          rw [show readsOf plan_50_11 0 = [] from rfl]
          refine give_call _ _ _ _ rfl rfl Try.func85 (by kernel_rfl) (by kernel_rfl) ?_
          refine Calls.mono (nought_any w) ?_
          rintro e w' ⟨r, rfl, hr, hx⟩
          exact ⟨r, rfl, ⟨_, _, _, _, hr, Rep.zero C7⟩, hx⟩
        · intro L v w hL hD hC hI
          refine ⟨fun _ => ?_, fun hw => by cases hw⟩
          refine Inv.alloc_step hok hI hL ⟨some 1, 0, 91, some 2, fun cs => cs.length = 16, fun cs => isP (Value.agg (List.toArray cs)) ((Pt.zero C7))⟩ (by simp) rfl (by simp) (by intro s hs; cases hs; exact not_yet hC hL (by decide)) ?_
          rw [show readsOf plan_50_11 1 = [] from rfl]
          go_simp
          first | exact ⟨rfl, _, rfl, by first | rfl | trivial⟩ | exact ⟨trivial, rfl, _, rfl, by first | rfl | trivial⟩ | exact ⟨rfl, pcL (fun _ => 0) (fun _ => 0), rfl, pcL_len _ _⟩ | exact ⟨trivial, rfl, pcL (fun _ => 0) (fun _ => 0), rfl, pcL_len _ _⟩ | exact ⟨rfl, (bcells fun _ => 0).toList, by rw [Array.toArray_toList], by simp⟩ | exact ⟨trivial, rfl, (bcells fun _ => 0).toList, by rw [Array.toArray_toList], by simp⟩
        · intro L v w hL hD hC hI
          refine ⟨fun _ => ?_, fun hw => by cases hw⟩
          have h0 : isP (v 0) ((Pt.zero C7)) := hI.val 0 (hD 0 (by decide))
          refine Inv.store_step hok hI hL ⟨some 1, 0, 91, some 2, fun cs => cs.length = 16, fun cs => isP (Value.agg (List.toArray cs)) ((Pt.zero C7))⟩ (by simp) rfl (by simp) (by intro k hk; cases hk; exact hD 1 (by decide)) ?_
          intro n cs hb hR hold
          change v 1 = .pointer (some ⟨n, 0, none⟩) at hb
          rw [show readsOf plan_50_11 2 = [(37, 0), (8, 1)] from rfl]
          exact st_Pw hR hold _ _ rfl hb h0 fun w' cs' hr he hk => ⟨trivial, hk, cs', hr, he⟩
        intro L v5 W5 hL hI
        obtain ⟨o, cs, hb_o, lo_o, hr, hn, ho⟩ := hI.row_made ⟨some 1, 0, 91, some 2, fun cs => cs.length = 16, fun cs => isP (Value.agg (List.toArray cs)) ((Pt.zero C7))⟩ (by simp) 1 rfl (hL 1 (by decide))
        have R_o : RV W5 o 91 (fun u => isP u ((Pt.zero C7))) := ⟨cs, hr, hn 2 rfl (hL 2 (by decide))⟩
        clear hr hn ho
        replace R_bk := R_bk.keep hI.keep (by simp)
        replace R_b := R_b.keep hI.keep (by simp)
        replace R_r := R_r.keep hI.keep (by simp)
        replace R_t := R_t.keep hI.keep (by simp)
        have ne_bk_o : bk ≠ o := Nat.ne_of_lt (Nat.lt_of_lt_of_le lt_bk lo_o)
        have ne_b_o : b ≠ o := Nat.ne_of_lt (Nat.lt_of_lt_of_le lt_b lo_o)
        have ne_r_o : r ≠ o := Nat.ne_of_lt (Nat.lt_of_lt_of_le lt_r lo_o)
        have ne_t_o : t ≠ o := Nat.ne_of_lt (Nat.lt_of_lt_of_le lt_t lo_o)
        replace lt_bk := Nat.lt_of_lt_of_le lt_bk hI.keep.size
        replace lt_b := Nat.lt_of_lt_of_le lt_b hI.keep.size
        replace lt_r := Nat.lt_of_lt_of_le lt_r hI.keep.size
        replace lt_t := Nat.lt_of_lt_of_le lt_t hI.keep.size
        have hx' : Ext w W5 := hx.trans hI.keep.to_ext
        have lt_o : o < W5.heap.size := R_o.lt
        have bs_o : w.heap.size ≤ o := Nat.le_trans hx.size lo_o
        clear hx hI hL hok L
        have hx := hx'
        clear hx'
        simp only [putP, Act.put, List.setIfInBounds_toArray, List.set_cons_zero, List.set_cons_succ, hb_o]
        go_upto_region 13 with fail
        go_loopw [9] (fun v9 wr => ∃ (i : Nat) (x : Int), i ≤ 32 ∧ v9 = .int .i64 x ∧ Hid (x + 1 = (i : Int)) ∧ RV wr o 91 (fun u => isP u (Pt.mul (N / 2 ^ (8 * i)) P)) ∧ Keep [o] W5 wr) (fun v9 _ => (intOf v9 + 1).toNat)
        case atStart => exact ⟨32, _, by decide, rfl, Lib.hid (by decide), by rw [hN0]; exact R_o, Keep.refl _ _⟩
        case round =>
          clear R_o
          obtain ⟨i, x, hi, rfl, hxi, R_o, hK⟩ := hrel
          replace R_bk := R_bk.keep hK (by simp [ne_bk_o, Ne.symm ne_bk_o])
          replace R_b := R_b.keep hK (by simp [ne_b_o, Ne.symm ne_b_o])
          replace R_r := R_r.keep hK (by simp [ne_r_o, Ne.symm ne_r_o])
          replace R_t := R_t.keep hK (by simp [ne_t_o, Ne.symm ne_t_o])
          replace lt_bk := Nat.lt_of_lt_of_le lt_bk hK.size
          replace lt_b := Nat.lt_of_lt_of_le lt_b hK.size
          replace lt_r := Nat.lt_of_lt_of_le lt_r hK.size
          replace lt_t := Nat.lt_of_lt_of_le lt_t hK.size
          replace lt_o := Nat.lt_of_lt_of_le lt_o hK.size
          replace hx := Ext.keep_ hx hK (by simpa using bs_o)
          have hxi' := hxi.out
          by_cases hx0 : 0 ≤ x
          · obtain ⟨m, rfl⟩ : ∃ m : Nat, x = (m : Int) := ⟨x.toNat, by omega⟩
            obtain rfl : i = m + 1 := by omega
            have hm : m < 32 := by omega
            have hmI : (m : Int) < 32 := by omega
            have hv1 : IntKind.i64.wrap ((m : Int) - 1) = (m : Int) - 1 := IntWalk.i64_in _ (by omega)
            have hbyte := hNb.out m hm
            have hx4 : Hid ((m : Int) - 1 + 1 = (m : Int)) := Lib.hid (by omega)
            clear hxi hxi'
            generalize hkb : k m = b8 at hbyte
            have hb1 : (b8 >>> 4).toNat = b8.toNat / 16 := toNat_shr_u8 b8 4 (by decide)
            have hb2 : (b8 &&& 15).toNat = b8.toNat % 16 := and15 b8
            have hbl := b8.toNat_lt
            have e1 : N / 2 ^ (8 * m + 4) = 16 * (N / 2 ^ (8 * (m + 1))) + (b8 >>> 4).toNat := by rw [hb1]; exact nib_hi N b8.toNat m hbyte
            have e2 : N / 2 ^ (8 * m) = 16 * (N / 2 ^ (8 * m + 4)) + (b8 &&& 15).toNat := by rw [hb2]; exact nib_lo N b8.toNat m hbyte
            have l1 : (b8 >>> 4).toNat < 16 := by rw [hb1]; omega
            have l2 : (b8 &&& 15).toNat < 16 := by rw [hb2]; omega
            obtain ⟨N0, hN0'⟩ : ∃ n, n = N / 2 ^ (8 * (m + 1)) := ⟨_, rfl⟩
            obtain ⟨N1, hN1⟩ : ∃ n, n = N / 2 ^ (8 * m + 4) := ⟨_, rfl⟩
            obtain ⟨N2, hN2⟩ : ∃ n, n = N / 2 ^ (8 * m) := ⟨_, rfl⟩
            rw [← hN1, ← hN0'] at e1
            rw [← hN2, ← hN1] at e2
            rw [← hN0'] at R_o
            replace e1 := Lib.hid e1
            replace e2 := Lib.hid e2
            replace hN2 := Lib.hid hN2
            clear hb1 hb2 hbl hbyte hN0' hN1
            go_upto_region 15 with fail
            have hok : TrsOk [] wr.heap.size ([] : List Trk) := ⟨by simp, by simp, by simp, by simp⟩
            refine wp_region_plan (Inv [] (fun j u => match j with | 0 => u = .int .i64 (m : Int) | 1 => u = .pointer (some ⟨bk, m * 1, none⟩) | 2 => u = .int .u8 (n8 b8) | 3 => u = .int .u8 (n8 (b8 >>> 4)) | 4 => u = .int .i64 (m : Int) | 5 => u = .pointer (some ⟨bk, m * 1, none⟩) | 6 => u = .int .u8 (n8 b8) | 7 => u = .int .u8 (n8 (b8 &&& 15)) | 8 => u = .agg #[.int .u8 (n8 (b8 >>> 4)), .int .u8 (n8 (b8 &&& 15))] | 9 => u = .int .i64 0 | _ => True) [] wr) plan_50_15 [(42, 0), (43, 1), (44, 2), (45, 3), (46, 4), (47, 5), (48, 6), (49, 7), (50, 8), (51, 9)] 66 (by kernel_rfl) rfl (by kernel_rfl) (Inv.start hok (by simp)) ⟨?_, ?_, ?_, ?_, ?_, ?_, ?_, ?_, ?_, ?_, trivial⟩ ?_
            · intro L v w hL hD hC hI
              refine ⟨fun _ => ?_, fun hw => by cases hw⟩
              refine hI.val_step hL (by simp) ?_
              rw [show readsOf plan_50_15 0 = [] from rfl]
              first | exact ⟨rfl, Ext.refl _⟩ | (go_simp; exact ⟨rfl, Ext.refl _⟩)
            · intro L v w hL hD hC hI
              refine ⟨fun _ => ?_, fun hw => by cases hw⟩
              have h0 : (v 0) = .int .i64 (m : Int) := hI.val 0 (hD 0 (by decide))
              refine hI.val_step hL (by simp) ?_
              rw [show readsOf plan_50_15 1 = [(42, 0)] from rfl]
              exact give_index _ _ _ _ rfl bk m 1 32 .i64 rfl h0 u22 hm i5_ ⟨rfl, Ext.refl _⟩
            · intro L v w hL hD hC hI
              refine ⟨fun _ => ?_, fun hw => by cases hw⟩
              have h1 : (v 1) = .pointer (some ⟨bk, m * 1, none⟩) := hI.val 1 (hD 1 (by decide))
              refine hI.val_step hL (by simp) ?_
              rw [show readsOf plan_50_15 2 = [(43, 1)] from rfl]
              exact ld_byte (R_bk.keep hI.keep (by simp)) hm _ rfl h1 fun u hu => ⟨hu.trans (by rw [hkb]), Ext.refl _⟩
            · intro L v w hL hD hC hI
              refine ⟨fun _ => ?_, fun hw => by cases hw⟩
              have h2 : (v 2) = .int .u8 (n8 b8) := hI.val 2 (hD 2 (by decide))
              refine hI.val_step hL (by simp) ?_
              rw [show readsOf plan_50_15 3 = [(44, 2)] from rfl]
              simp only [putP, Act.put, List.setIfInBounds_toArray, List.set_cons_zero, List.set_cons_succ, h2]
              go_simp
              exact ⟨rfl, Ext.refl _⟩
            · intro L v w hL hD hC hI
              refine ⟨fun _ => ?_, fun hw => by cases hw⟩
              refine hI.val_step hL (by simp) ?_
              rw [show readsOf plan_50_15 4 = [] from rfl]
              first | exact ⟨rfl, Ext.refl _⟩ | (go_simp; exact ⟨rfl, Ext.refl _⟩)
            · intro L v w hL hD hC hI
              refine ⟨fun _ => ?_, fun hw => by cases hw⟩
              have h4 : (v 4) = .int .i64 (m : Int) := hI.val 4 (hD 4 (by decide))
              refine hI.val_step hL (by simp) ?_
              rw [show readsOf plan_50_15 5 = [(46, 4)] from rfl]
              exact give_index _ _ _ _ rfl bk m 1 32 .i64 rfl h4 u22 hm i5_ ⟨rfl, Ext.refl _⟩
            · intro L v w hL hD hC hI
              refine ⟨fun _ => ?_, fun hw => by cases hw⟩
              have h5 : (v 5) = .pointer (some ⟨bk, m * 1, none⟩) := hI.val 5 (hD 5 (by decide))
              refine hI.val_step hL (by simp) ?_
              rw [show readsOf plan_50_15 6 = [(47, 5)] from rfl]
              exact ld_byte (R_bk.keep hI.keep (by simp)) hm _ rfl h5 fun u hu => ⟨hu.trans (by rw [hkb]), Ext.refl _⟩
            · intro L v w hL hD hC hI
              refine ⟨fun _ => ?_, fun hw => by cases hw⟩
              have h6 : (v 6) = .int .u8 (n8 b8) := hI.val 6 (hD 6 (by decide))
              refine hI.val_step hL (by simp) ?_
              rw [show readsOf plan_50_15 7 = [(48, 6)] from rfl]
              simp only [putP, Act.put, List.setIfInBounds_toArray, List.set_cons_zero, List.set_cons_succ, h6]
              go_simp
              exact ⟨rfl, Ext.refl _⟩
            · intro L v w hL hD hC hI
              refine ⟨fun _ => ?_, fun hw => by cases hw⟩
              have h3 : (v 3) = .int .u8 (n8 (b8 >>> 4)) := hI.val 3 (hD 3 (by decide))
              have h7 : (v 7) = .int .u8 (n8 (b8 &&& 15)) := hI.val 7 (hD 7 (by decide))
              refine hI.val_step hL (by simp) ?_
              rw [show readsOf plan_50_15 8 = [(45, 3), (49, 7)] from rfl]
              simp only [putP, Act.put, List.setIfInBounds_toArray, List.set_cons_zero, List.set_cons_succ, h3, h7]
              go_simp
              exact ⟨rfl, Ext.refl _⟩
            · intro L v w hL hD hC hI
              refine ⟨fun _ => ?_, fun hw => by cases hw⟩
              refine hI.val_step hL (by simp) ?_
              rw [show readsOf plan_50_15 9 = [] from rfl]
              exact ⟨rfl, Ext.refl _⟩
            intro L v6 W6 hL hI
            replace R_bk := R_bk.keep hI.keep (by simp)
            replace R_b := R_b.keep hI.keep (by simp)
            replace R_r := R_r.keep hI.keep (by simp)
            replace R_t := R_t.keep hI.keep (by simp)
            replace R_o := R_o.keep hI.keep (by simp)
            replace lt_bk := Nat.lt_of_lt_of_le lt_bk hI.keep.size
            replace lt_b := Nat.lt_of_lt_of_le lt_b hI.keep.size
            replace lt_r := Nat.lt_of_lt_of_le lt_r hI.keep.size
            replace lt_t := Nat.lt_of_lt_of_le lt_t hI.keep.size
            replace lt_o := Nat.lt_of_lt_of_le lt_o hI.keep.size
            have hx' : Ext w W6 := hx.trans hI.keep.to_ext
            have hs_42_15 : (v6 0) = .int .i64 (m : Int) := hI.val 0 (hL 0 (by decide))
            have hs_46_15 : (v6 4) = .int .i64 (m : Int) := hI.val 4 (hL 4 (by decide))
            have hs_50_15 : (v6 8) = .agg #[.int .u8 (n8 (b8 >>> 4)), .int .u8 (n8 (b8 &&& 15))] := hI.val 8 (hL 8 (by decide))
            have hs_51_15 : (v6 9) = .int .i64 0 := hI.val 9 (hL 9 (by decide))
            have hk15 := hI.keep
            clear hx hI hL hok L
            have hx := hx'
            clear hx'
            simp only [putP, Act.put, List.setIfInBounds_toArray, List.set_cons_zero, List.set_cons_succ, hs_42_15, hs_46_15, hs_50_15, hs_51_15]
            replace hK := hK.ext hk15.to_ext
            clear hk15
            go_upto_region 16 with fail
            go_loopw [51] (fun v51 wr => ∃ q : Int, v51 = .int .i64 q ∧ ((q = 0 ∧ RV wr o 91 (fun u => isP u (Pt.mul N0 P))) ∨ (q = 1 ∧ RV wr o 91 (fun u => isP u (Pt.mul N1 P))) ∨ (q = 2 ∧ RV wr o 91 (fun u => isP u (Pt.mul N2 P)))) ∧ Keep [o] W6 wr) (fun v51 _ => 2 - (intOf v51).toNat)
            case atStart => exact ⟨0, rfl, .inl ⟨rfl, R_o⟩, Keep.refl _ _⟩
            case round =>
              clear R_o
              obtain ⟨q, rfl, hq, hK3⟩ := hrel
              replace R_bk := R_bk.keep hK3 (by simp [ne_bk_o, Ne.symm ne_bk_o])
              replace R_b := R_b.keep hK3 (by simp [ne_b_o, Ne.symm ne_b_o])
              replace R_r := R_r.keep hK3 (by simp [ne_r_o, Ne.symm ne_r_o])
              replace R_t := R_t.keep hK3 (by simp [ne_t_o, Ne.symm ne_t_o])
              replace lt_bk := Nat.lt_of_lt_of_le lt_bk hK3.size
              replace lt_b := Nat.lt_of_lt_of_le lt_b hK3.size
              replace lt_r := Nat.lt_of_lt_of_le lt_r hK3.size
              replace lt_t := Nat.lt_of_lt_of_le lt_t hK3.size
              replace lt_o := Nat.lt_of_lt_of_le lt_o hK3.size
              replace hx := Ext.keep_ hx hK3 (by simpa using bs_o)
              rcases hq with ⟨rfl, R_o⟩ | ⟨rfl, R_o⟩ | ⟨rfl, R_o⟩
              · skip
                go_upto_region 17 with fail
                have hok : TrsOk [] wr.heap.size ([] : List Trk) := ⟨by simp, by simp, by simp, by simp⟩
                refine wp_region_text (Inv [] (fun j u => match j with | 0 => u = .int .u8 (n8 (b8 >>> 4)) | 1 => u = .int .u8 (n8 (b8 >>> 4)) | _ => True) [] wr) plan_50_17 [(53, 0), (11, 1)] 66 rfl (by kernel_rfl) (Inv.start0 hok (by simp)) ⟨?_, ?_, trivial⟩ ?_
                · intro L v w hL hD hC hI
                  refine ⟨fun _ => ?_, fun hw => by cases hw⟩
                  refine hI.val_step hL (by simp) ?_
                  rw [show readsOf plan_50_17 0 = [] from rfl]
                  exact give_idx _ _ _ _ rfl 0 2 .i64 _ rfl rfl uA2 (by decide) i5_ _ u5_ rfl _ rfl ⟨rfl, Ext.refl _⟩
                · intro L v w hL hD hC hI
                  refine ⟨fun _ => ?_, fun hw => by cases hw⟩
                  have h0 : (v 0) = .int .u8 (n8 (b8 >>> 4)) := hI.val 0 (hD 0 (by decide))
                  refine hI.val_step hL (by simp) ?_
                  rw [show readsOf plan_50_17 1 = [(53, 0)] from rfl]
                  exact ⟨h0, Ext.refl _⟩
                intro L v7 W7 hL hI
                replace R_bk := R_bk.keep hI.keep (by simp)
                replace R_b := R_b.keep hI.keep (by simp)
                replace R_r := R_r.keep hI.keep (by simp)
                replace R_t := R_t.keep hI.keep (by simp)
                replace R_o := R_o.keep hI.keep (by simp)
                replace lt_bk := Nat.lt_of_lt_of_le lt_bk hI.keep.size
                replace lt_b := Nat.lt_of_lt_of_le lt_b hI.keep.size
                replace lt_r := Nat.lt_of_lt_of_le lt_r hI.keep.size
                replace lt_t := Nat.lt_of_lt_of_le lt_t hI.keep.size
                replace lt_o := Nat.lt_of_lt_of_le lt_o hI.keep.size
                have hx' : Ext w W7 := hx.trans hI.keep.to_ext
                have hs_11_17 : (v7 1) = .int .u8 (n8 (b8 >>> 4)) := hI.val 1 (hL 1 (by decide))
                have hk17 := hI.keep
                clear hx hI hL hok L
                have hx := hx'
                clear hx'
                simp only [putP, Act.put, List.setIfInBounds_toArray, List.set_cons_zero, List.set_cons_succ, hs_11_17]
                replace hK3 := hK3.ext hk17.to_ext
                clear hk17
                go_upto_region 18 with fail
                have hok : TrsOk [o] W7.heap.size ([⟨none, o, 91, some 9, fun cs => isP (Value.agg (List.toArray cs)) (Pt.mul N0 P), fun cs => isP (Value.agg (List.toArray cs)) ((((((Pt.mul N0 P).add (Pt.mul N0 P)).add ((Pt.mul N0 P).add (Pt.mul N0 P))).add (((Pt.mul N0 P).add (Pt.mul N0 P)).add ((Pt.mul N0 P).add (Pt.mul N0 P)))).add ((((Pt.mul N0 P).add (Pt.mul N0 P)).add ((Pt.mul N0 P).add (Pt.mul N0 P))).add (((Pt.mul N0 P).add (Pt.mul N0 P)).add ((Pt.mul N0 P).add (Pt.mul N0 P))))).add (Pt.mul (b8 >>> 4).toNat P))⟩] : List Trk) := ⟨by simp [R_o.lt], by simp, by simp, by simp⟩
                refine wp_region_plan (Inv [o] (fun j u => match j with | 0 => isP u (Pt.mul N0 P) | 1 => isP u ((Pt.mul N0 P).add (Pt.mul N0 P)) | 2 => isP u (((Pt.mul N0 P).add (Pt.mul N0 P)).add ((Pt.mul N0 P).add (Pt.mul N0 P))) | 3 => isP u ((((Pt.mul N0 P).add (Pt.mul N0 P)).add ((Pt.mul N0 P).add (Pt.mul N0 P))).add (((Pt.mul N0 P).add (Pt.mul N0 P)).add ((Pt.mul N0 P).add (Pt.mul N0 P)))) | 4 => isP u (((((Pt.mul N0 P).add (Pt.mul N0 P)).add ((Pt.mul N0 P).add (Pt.mul N0 P))).add (((Pt.mul N0 P).add (Pt.mul N0 P)).add ((Pt.mul N0 P).add (Pt.mul N0 P)))).add ((((Pt.mul N0 P).add (Pt.mul N0 P)).add ((Pt.mul N0 P).add (Pt.mul N0 P))).add (((Pt.mul N0 P).add (Pt.mul N0 P)).add ((Pt.mul N0 P).add (Pt.mul N0 P))))) | 5 => u = .int .u8 (n8 (b8 >>> 4)) | 6 => u = .pointer (some ⟨t, (b8 >>> 4).toNat * 16, none⟩) | 7 => isP u (Pt.mul (b8 >>> 4).toNat P) | 8 => isP u ((((((Pt.mul N0 P).add (Pt.mul N0 P)).add ((Pt.mul N0 P).add (Pt.mul N0 P))).add (((Pt.mul N0 P).add (Pt.mul N0 P)).add ((Pt.mul N0 P).add (Pt.mul N0 P)))).add ((((Pt.mul N0 P).add (Pt.mul N0 P)).add ((Pt.mul N0 P).add (Pt.mul N0 P))).add (((Pt.mul N0 P).add (Pt.mul N0 P)).add ((Pt.mul N0 P).add (Pt.mul N0 P))))).add (Pt.mul (b8 >>> 4).toNat P)) | _ => True) [⟨none, o, 91, some 9, fun cs => isP (Value.agg (List.toArray cs)) (Pt.mul N0 P), fun cs => isP (Value.agg (List.toArray cs)) ((((((Pt.mul N0 P).add (Pt.mul N0 P)).add ((Pt.mul N0 P).add (Pt.mul N0 P))).add (((Pt.mul N0 P).add (Pt.mul N0 P)).add ((Pt.mul N0 P).add (Pt.mul N0 P)))).add ((((Pt.mul N0 P).add (Pt.mul N0 P)).add ((Pt.mul N0 P).add (Pt.mul N0 P))).add (((Pt.mul N0 P).add (Pt.mul N0 P)).add ((Pt.mul N0 P).add (Pt.mul N0 P))))).add (Pt.mul (b8 >>> 4).toNat P))⟩] W7) plan_50_18 [(54, 0), (55, 1), (56, 2), (57, 3), (58, 4), (59, 5), (60, 6), (61, 7), (62, 8)] 66 (by kernel_rfl) rfl (by kernel_rfl) (Inv.start hok (by
                    simp only [List.forall_mem_cons, List.not_mem_nil, false_implies, implies_true, and_true]
                    exact fun _ => R_o)) ⟨?_, ?_, ?_, ?_, ?_, ?_, ?_, ?_, ?_, ?_, trivial⟩ ?_
                · intro L v w hL hD hC hI
                  refine ⟨fun _ => ?_, fun hw => by cases hw⟩
                  refine hI.val_step hL (by simp) ?_
                  rw [show readsOf plan_50_18 0 = [] from rfl]
                  exact ld_Pw (hI.row_old ⟨none, o, 91, some 9, fun cs => isP (Value.agg (List.toArray cs)) (Pt.mul N0 P), fun cs => isP (Value.agg (List.toArray cs)) ((((((Pt.mul N0 P).add (Pt.mul N0 P)).add ((Pt.mul N0 P).add (Pt.mul N0 P))).add (((Pt.mul N0 P).add (Pt.mul N0 P)).add ((Pt.mul N0 P).add (Pt.mul N0 P)))).add ((((Pt.mul N0 P).add (Pt.mul N0 P)).add ((Pt.mul N0 P).add (Pt.mul N0 P))).add (((Pt.mul N0 P).add (Pt.mul N0 P)).add ((Pt.mul N0 P).add (Pt.mul N0 P))))).add (Pt.mul (b8 >>> 4).toNat P))⟩ (by simp) rfl (by intro s hs; cases hs; exact not_yet hC hL (by decide))) _ rfl rfl fun u hu => ⟨hu, Ext.refl _⟩
                · intro L v w hL hD hC hI
                  refine ⟨fun _ => ?_, fun hw => by cases hw⟩
                  have h0 : isP (v 0) (Pt.mul N0 P) := hI.val 0 (hD 0 (by decide))
                  refine hI.val_step hL (by simp) ?_
                  rw [show readsOf plan_50_18 1 = [(54, 0)] from rfl]
                  refine give_call _ _ _ _ rfl rfl Try.func86 (by kernel_rfl) (by kernel_rfl) ?_
                  refine Calls.mono (wdouble_any h0 w) ?_
                  rintro e w' ⟨r, rfl, hr, hx⟩
                  exact ⟨r, rfl, hr, hx⟩
                · intro L v w hL hD hC hI
                  refine ⟨fun _ => ?_, fun hw => by cases hw⟩
                  have h1 : isP (v 1) ((Pt.mul N0 P).add (Pt.mul N0 P)) := hI.val 1 (hD 1 (by decide))
                  refine hI.val_step hL (by simp) ?_
                  rw [show readsOf plan_50_18 2 = [(55, 1)] from rfl]
                  refine give_call _ _ _ _ rfl rfl Try.func86 (by kernel_rfl) (by kernel_rfl) ?_
                  refine Calls.mono (wdouble_any h1 w) ?_
                  rintro e w' ⟨r, rfl, hr, hx⟩
                  exact ⟨r, rfl, hr, hx⟩
                · intro L v w hL hD hC hI
                  refine ⟨fun _ => ?_, fun hw => by cases hw⟩
                  have h2 : isP (v 2) (((Pt.mul N0 P).add (Pt.mul N0 P)).add ((Pt.mul N0 P).add (Pt.mul N0 P))) := hI.val 2 (hD 2 (by decide))
                  refine hI.val_step hL (by simp) ?_
                  rw [show readsOf plan_50_18 3 = [(56, 2)] from rfl]
                  refine give_call _ _ _ _ rfl rfl Try.func86 (by kernel_rfl) (by kernel_rfl) ?_
                  refine Calls.mono (wdouble_any h2 w) ?_
                  rintro e w' ⟨r, rfl, hr, hx⟩
                  exact ⟨r, rfl, hr, hx⟩
                · intro L v w hL hD hC hI
                  refine ⟨fun _ => ?_, fun hw => by cases hw⟩
                  have h3 : isP (v 3) ((((Pt.mul N0 P).add (Pt.mul N0 P)).add ((Pt.mul N0 P).add (Pt.mul N0 P))).add (((Pt.mul N0 P).add (Pt.mul N0 P)).add ((Pt.mul N0 P).add (Pt.mul N0 P)))) := hI.val 3 (hD 3 (by decide))
                  refine hI.val_step hL (by simp) ?_
                  rw [show readsOf plan_50_18 4 = [(57, 3)] from rfl]
                  refine give_call _ _ _ _ rfl rfl Try.func86 (by kernel_rfl) (by kernel_rfl) ?_
                  refine Calls.mono (wdouble_any h3 w) ?_
                  rintro e w' ⟨r, rfl, hr, hx⟩
                  exact ⟨r, rfl, hr, hx⟩
                · intro L v w hL hD hC hI
                  refine ⟨fun _ => ?_, fun hw => by cases hw⟩
                  refine hI.val_step hL (by simp) ?_
                  rw [show readsOf plan_50_18 5 = [] from rfl]
                  first | exact ⟨rfl, Ext.refl _⟩ | (go_simp; exact ⟨rfl, Ext.refl _⟩)
                · intro L v w hL hD hC hI
                  refine ⟨fun _ => ?_, fun hw => by cases hw⟩
                  have h5 : (v 5) = .int .u8 (n8 (b8 >>> 4)) := hI.val 5 (hD 5 (by decide))
                  refine hI.val_step hL (by simp) ?_
                  rw [show readsOf plan_50_18 6 = [(59, 5)] from rfl]
                  exact give_index _ _ _ _ rfl t (b8 >>> 4).toNat 16 16 .u8 rfl h5 uTab l1 iWd ⟨rfl, Ext.refl _⟩
                · intro L v w hL hD hC hI
                  refine ⟨fun _ => ?_, fun hw => by cases hw⟩
                  have h6 : (v 6) = .pointer (some ⟨t, (b8 >>> 4).toNat * 16, none⟩) := hI.val 6 (hD 6 (by decide))
                  refine hI.val_step hL (by simp) ?_
                  rw [show readsOf plan_50_18 7 = [(60, 6)] from rfl]
                  exact ld_T (R_t.keep hI.keep (by simp [ne_t_o, Ne.symm ne_t_o])) (b8 >>> 4).toNat l1 (by decide) _ rfl h6 fun u hu => ⟨hu, Ext.refl _⟩
                · intro L v w hL hD hC hI
                  refine ⟨fun _ => ?_, fun hw => by cases hw⟩
                  have h4 : isP (v 4) (((((Pt.mul N0 P).add (Pt.mul N0 P)).add ((Pt.mul N0 P).add (Pt.mul N0 P))).add (((Pt.mul N0 P).add (Pt.mul N0 P)).add ((Pt.mul N0 P).add (Pt.mul N0 P)))).add ((((Pt.mul N0 P).add (Pt.mul N0 P)).add ((Pt.mul N0 P).add (Pt.mul N0 P))).add (((Pt.mul N0 P).add (Pt.mul N0 P)).add ((Pt.mul N0 P).add (Pt.mul N0 P))))) := hI.val 4 (hD 4 (by decide))
                  have h7 : isP (v 7) (Pt.mul (b8 >>> 4).toNat P) := hI.val 7 (hD 7 (by decide))
                  refine hI.val_step hL (by simp) ?_
                  rw [show readsOf plan_50_18 8 = [(58, 4), (61, 7)] from rfl]
                  refine give_call _ _ _ _ rfl rfl Try.func83 (by kernel_rfl) (by kernel_rfl) ?_
                  refine Calls.mono (wplus_any h4 h7 w) ?_
                  rintro e w' ⟨r, rfl, hr, hx⟩
                  exact ⟨r, rfl, hr, hx⟩
                · intro L v w hL hD hC hI
                  refine ⟨fun _ => ?_, fun hw => by cases hw⟩
                  have h8 : isP (v 8) ((((((Pt.mul N0 P).add (Pt.mul N0 P)).add ((Pt.mul N0 P).add (Pt.mul N0 P))).add (((Pt.mul N0 P).add (Pt.mul N0 P)).add ((Pt.mul N0 P).add (Pt.mul N0 P)))).add ((((Pt.mul N0 P).add (Pt.mul N0 P)).add ((Pt.mul N0 P).add (Pt.mul N0 P))).add (((Pt.mul N0 P).add (Pt.mul N0 P)).add ((Pt.mul N0 P).add (Pt.mul N0 P))))).add (Pt.mul (b8 >>> 4).toNat P)) := hI.val 8 (hD 8 (by decide))
                  refine Inv.store_step hok hI hL ⟨none, o, 91, some 9, fun cs => isP (Value.agg (List.toArray cs)) (Pt.mul N0 P), fun cs => isP (Value.agg (List.toArray cs)) ((((((Pt.mul N0 P).add (Pt.mul N0 P)).add ((Pt.mul N0 P).add (Pt.mul N0 P))).add (((Pt.mul N0 P).add (Pt.mul N0 P)).add ((Pt.mul N0 P).add (Pt.mul N0 P)))).add ((((Pt.mul N0 P).add (Pt.mul N0 P)).add ((Pt.mul N0 P).add (Pt.mul N0 P))).add (((Pt.mul N0 P).add (Pt.mul N0 P)).add ((Pt.mul N0 P).add (Pt.mul N0 P))))).add (Pt.mul (b8 >>> 4).toNat P))⟩ (by simp) rfl (by simp) (by intro k hk; cases hk) ?_
                  intro n cs hb hR hold
                  change n = o at hb
                  subst hb
                  rw [show readsOf plan_50_18 9 = [(62, 8)] from rfl]
                  exact st_Pw hR (isP_len hold) _ _ rfl rfl h8 fun w' cs' hr he hk => ⟨trivial, hk, cs', hr, he⟩
                intro L v8 W8 hL hI
                have N_o : RV W8 o 91 (fun u => isP u ((((((Pt.mul N0 P).add (Pt.mul N0 P)).add ((Pt.mul N0 P).add (Pt.mul N0 P))).add (((Pt.mul N0 P).add (Pt.mul N0 P)).add ((Pt.mul N0 P).add (Pt.mul N0 P)))).add ((((Pt.mul N0 P).add (Pt.mul N0 P)).add ((Pt.mul N0 P).add (Pt.mul N0 P))).add (((Pt.mul N0 P).add (Pt.mul N0 P)).add ((Pt.mul N0 P).add (Pt.mul N0 P))))).add (Pt.mul (b8 >>> 4).toNat P))) := hI.row_new ⟨none, o, 91, some 9, fun cs => isP (Value.agg (List.toArray cs)) (Pt.mul N0 P), fun cs => isP (Value.agg (List.toArray cs)) ((((((Pt.mul N0 P).add (Pt.mul N0 P)).add ((Pt.mul N0 P).add (Pt.mul N0 P))).add (((Pt.mul N0 P).add (Pt.mul N0 P)).add ((Pt.mul N0 P).add (Pt.mul N0 P)))).add ((((Pt.mul N0 P).add (Pt.mul N0 P)).add ((Pt.mul N0 P).add (Pt.mul N0 P))).add (((Pt.mul N0 P).add (Pt.mul N0 P)).add ((Pt.mul N0 P).add (Pt.mul N0 P))))).add (Pt.mul (b8 >>> 4).toNat P))⟩ (by simp) rfl 9 rfl (hL 9 (by decide))
                replace R_bk := R_bk.keep hI.keep (by simp [ne_bk_o, Ne.symm ne_bk_o])
                replace R_b := R_b.keep hI.keep (by simp [ne_b_o, Ne.symm ne_b_o])
                replace R_r := R_r.keep hI.keep (by simp [ne_r_o, Ne.symm ne_r_o])
                replace R_t := R_t.keep hI.keep (by simp [ne_t_o, Ne.symm ne_t_o])
                clear R_o
                have R_o := N_o
                clear N_o
                replace lt_bk := Nat.lt_of_lt_of_le lt_bk hI.keep.size
                replace lt_b := Nat.lt_of_lt_of_le lt_b hI.keep.size
                replace lt_r := Nat.lt_of_lt_of_le lt_r hI.keep.size
                replace lt_t := Nat.lt_of_lt_of_le lt_t hI.keep.size
                replace lt_o := Nat.lt_of_lt_of_le lt_o hI.keep.size
                have hx' : Ext w W8 := Ext.keep_ hx hI.keep (by simp only [List.forall_mem_cons, List.not_mem_nil, false_implies, implies_true, and_true]; exact bs_o)
                have hs_59_18 : (v8 5) = .int .u8 (n8 (b8 >>> 4)) := hI.val 5 (hL 5 (by decide))
                have hk18 := hI.keep
                clear hx hI hL hok L
                have hx := hx'
                clear hx'
                simp only [putP, Act.put, List.setIfInBounds_toArray, List.set_cons_zero, List.set_cons_succ, hs_59_18]
                have hK4 := hK3.same hk18
                clear hK3 hk18
                rw [quad_pt, ← e1.out] at R_o
                go_wp2
                exact ⟨⟨1, by first | rfl | go_num, .inr (.inl ⟨rfl, R_o⟩), ⟨hK4.os, hK4.tape, hK4.output, hK4.size, hK4.keep⟩⟩, by simp [intOf]⟩
              · skip
                go_upto_region 17 with fail
                have hok : TrsOk [] wr.heap.size ([] : List Trk) := ⟨by simp, by simp, by simp, by simp⟩
                refine wp_region_text (Inv [] (fun j u => match j with | 0 => u = .int .u8 (n8 (b8 &&& 15)) | 1 => u = .int .u8 (n8 (b8 &&& 15)) | _ => True) [] wr) plan_50_17 [(53, 0), (11, 1)] 66 rfl (by kernel_rfl) (Inv.start0 hok (by simp)) ⟨?_, ?_, trivial⟩ ?_
                · intro L v w hL hD hC hI
                  refine ⟨fun _ => ?_, fun hw => by cases hw⟩
                  refine hI.val_step hL (by simp) ?_
                  rw [show readsOf plan_50_17 0 = [] from rfl]
                  exact give_idx _ _ _ _ rfl 1 2 .i64 _ rfl rfl uA2 (by decide) i5_ _ u5_ rfl _ rfl ⟨rfl, Ext.refl _⟩
                · intro L v w hL hD hC hI
                  refine ⟨fun _ => ?_, fun hw => by cases hw⟩
                  have h0 : (v 0) = .int .u8 (n8 (b8 &&& 15)) := hI.val 0 (hD 0 (by decide))
                  refine hI.val_step hL (by simp) ?_
                  rw [show readsOf plan_50_17 1 = [(53, 0)] from rfl]
                  exact ⟨h0, Ext.refl _⟩
                intro L v7 W7 hL hI
                replace R_bk := R_bk.keep hI.keep (by simp)
                replace R_b := R_b.keep hI.keep (by simp)
                replace R_r := R_r.keep hI.keep (by simp)
                replace R_t := R_t.keep hI.keep (by simp)
                replace R_o := R_o.keep hI.keep (by simp)
                replace lt_bk := Nat.lt_of_lt_of_le lt_bk hI.keep.size
                replace lt_b := Nat.lt_of_lt_of_le lt_b hI.keep.size
                replace lt_r := Nat.lt_of_lt_of_le lt_r hI.keep.size
                replace lt_t := Nat.lt_of_lt_of_le lt_t hI.keep.size
                replace lt_o := Nat.lt_of_lt_of_le lt_o hI.keep.size
                have hx' : Ext w W7 := hx.trans hI.keep.to_ext
                have hs_11_17 : (v7 1) = .int .u8 (n8 (b8 &&& 15)) := hI.val 1 (hL 1 (by decide))
                have hk17 := hI.keep
                clear hx hI hL hok L
                have hx := hx'
                clear hx'
                simp only [putP, Act.put, List.setIfInBounds_toArray, List.set_cons_zero, List.set_cons_succ, hs_11_17]
                replace hK3 := hK3.ext hk17.to_ext
                clear hk17
                go_upto_region 18 with fail
                have hok : TrsOk [o] W7.heap.size ([⟨none, o, 91, some 9, fun cs => isP (Value.agg (List.toArray cs)) (Pt.mul N1 P), fun cs => isP (Value.agg (List.toArray cs)) ((((((Pt.mul N1 P).add (Pt.mul N1 P)).add ((Pt.mul N1 P).add (Pt.mul N1 P))).add (((Pt.mul N1 P).add (Pt.mul N1 P)).add ((Pt.mul N1 P).add (Pt.mul N1 P)))).add ((((Pt.mul N1 P).add (Pt.mul N1 P)).add ((Pt.mul N1 P).add (Pt.mul N1 P))).add (((Pt.mul N1 P).add (Pt.mul N1 P)).add ((Pt.mul N1 P).add (Pt.mul N1 P))))).add (Pt.mul (b8 &&& 15).toNat P))⟩] : List Trk) := ⟨by simp [R_o.lt], by simp, by simp, by simp⟩
                refine wp_region_plan (Inv [o] (fun j u => match j with | 0 => isP u (Pt.mul N1 P) | 1 => isP u ((Pt.mul N1 P).add (Pt.mul N1 P)) | 2 => isP u (((Pt.mul N1 P).add (Pt.mul N1 P)).add ((Pt.mul N1 P).add (Pt.mul N1 P))) | 3 => isP u ((((Pt.mul N1 P).add (Pt.mul N1 P)).add ((Pt.mul N1 P).add (Pt.mul N1 P))).add (((Pt.mul N1 P).add (Pt.mul N1 P)).add ((Pt.mul N1 P).add (Pt.mul N1 P)))) | 4 => isP u (((((Pt.mul N1 P).add (Pt.mul N1 P)).add ((Pt.mul N1 P).add (Pt.mul N1 P))).add (((Pt.mul N1 P).add (Pt.mul N1 P)).add ((Pt.mul N1 P).add (Pt.mul N1 P)))).add ((((Pt.mul N1 P).add (Pt.mul N1 P)).add ((Pt.mul N1 P).add (Pt.mul N1 P))).add (((Pt.mul N1 P).add (Pt.mul N1 P)).add ((Pt.mul N1 P).add (Pt.mul N1 P))))) | 5 => u = .int .u8 (n8 (b8 &&& 15)) | 6 => u = .pointer (some ⟨t, (b8 &&& 15).toNat * 16, none⟩) | 7 => isP u (Pt.mul (b8 &&& 15).toNat P) | 8 => isP u ((((((Pt.mul N1 P).add (Pt.mul N1 P)).add ((Pt.mul N1 P).add (Pt.mul N1 P))).add (((Pt.mul N1 P).add (Pt.mul N1 P)).add ((Pt.mul N1 P).add (Pt.mul N1 P)))).add ((((Pt.mul N1 P).add (Pt.mul N1 P)).add ((Pt.mul N1 P).add (Pt.mul N1 P))).add (((Pt.mul N1 P).add (Pt.mul N1 P)).add ((Pt.mul N1 P).add (Pt.mul N1 P))))).add (Pt.mul (b8 &&& 15).toNat P)) | _ => True) [⟨none, o, 91, some 9, fun cs => isP (Value.agg (List.toArray cs)) (Pt.mul N1 P), fun cs => isP (Value.agg (List.toArray cs)) ((((((Pt.mul N1 P).add (Pt.mul N1 P)).add ((Pt.mul N1 P).add (Pt.mul N1 P))).add (((Pt.mul N1 P).add (Pt.mul N1 P)).add ((Pt.mul N1 P).add (Pt.mul N1 P)))).add ((((Pt.mul N1 P).add (Pt.mul N1 P)).add ((Pt.mul N1 P).add (Pt.mul N1 P))).add (((Pt.mul N1 P).add (Pt.mul N1 P)).add ((Pt.mul N1 P).add (Pt.mul N1 P))))).add (Pt.mul (b8 &&& 15).toNat P))⟩] W7) plan_50_18 [(54, 0), (55, 1), (56, 2), (57, 3), (58, 4), (59, 5), (60, 6), (61, 7), (62, 8)] 66 (by kernel_rfl) rfl (by kernel_rfl) (Inv.start hok (by
                    simp only [List.forall_mem_cons, List.not_mem_nil, false_implies, implies_true, and_true]
                    exact fun _ => R_o)) ⟨?_, ?_, ?_, ?_, ?_, ?_, ?_, ?_, ?_, ?_, trivial⟩ ?_
                · intro L v w hL hD hC hI
                  refine ⟨fun _ => ?_, fun hw => by cases hw⟩
                  refine hI.val_step hL (by simp) ?_
                  rw [show readsOf plan_50_18 0 = [] from rfl]
                  exact ld_Pw (hI.row_old ⟨none, o, 91, some 9, fun cs => isP (Value.agg (List.toArray cs)) (Pt.mul N1 P), fun cs => isP (Value.agg (List.toArray cs)) ((((((Pt.mul N1 P).add (Pt.mul N1 P)).add ((Pt.mul N1 P).add (Pt.mul N1 P))).add (((Pt.mul N1 P).add (Pt.mul N1 P)).add ((Pt.mul N1 P).add (Pt.mul N1 P)))).add ((((Pt.mul N1 P).add (Pt.mul N1 P)).add ((Pt.mul N1 P).add (Pt.mul N1 P))).add (((Pt.mul N1 P).add (Pt.mul N1 P)).add ((Pt.mul N1 P).add (Pt.mul N1 P))))).add (Pt.mul (b8 &&& 15).toNat P))⟩ (by simp) rfl (by intro s hs; cases hs; exact not_yet hC hL (by decide))) _ rfl rfl fun u hu => ⟨hu, Ext.refl _⟩
                · intro L v w hL hD hC hI
                  refine ⟨fun _ => ?_, fun hw => by cases hw⟩
                  have h0 : isP (v 0) (Pt.mul N1 P) := hI.val 0 (hD 0 (by decide))
                  refine hI.val_step hL (by simp) ?_
                  rw [show readsOf plan_50_18 1 = [(54, 0)] from rfl]
                  refine give_call _ _ _ _ rfl rfl Try.func86 (by kernel_rfl) (by kernel_rfl) ?_
                  refine Calls.mono (wdouble_any h0 w) ?_
                  rintro e w' ⟨r, rfl, hr, hx⟩
                  exact ⟨r, rfl, hr, hx⟩
                · intro L v w hL hD hC hI
                  refine ⟨fun _ => ?_, fun hw => by cases hw⟩
                  have h1 : isP (v 1) ((Pt.mul N1 P).add (Pt.mul N1 P)) := hI.val 1 (hD 1 (by decide))
                  refine hI.val_step hL (by simp) ?_
                  rw [show readsOf plan_50_18 2 = [(55, 1)] from rfl]
                  refine give_call _ _ _ _ rfl rfl Try.func86 (by kernel_rfl) (by kernel_rfl) ?_
                  refine Calls.mono (wdouble_any h1 w) ?_
                  rintro e w' ⟨r, rfl, hr, hx⟩
                  exact ⟨r, rfl, hr, hx⟩
                · intro L v w hL hD hC hI
                  refine ⟨fun _ => ?_, fun hw => by cases hw⟩
                  have h2 : isP (v 2) (((Pt.mul N1 P).add (Pt.mul N1 P)).add ((Pt.mul N1 P).add (Pt.mul N1 P))) := hI.val 2 (hD 2 (by decide))
                  refine hI.val_step hL (by simp) ?_
                  rw [show readsOf plan_50_18 3 = [(56, 2)] from rfl]
                  refine give_call _ _ _ _ rfl rfl Try.func86 (by kernel_rfl) (by kernel_rfl) ?_
                  refine Calls.mono (wdouble_any h2 w) ?_
                  rintro e w' ⟨r, rfl, hr, hx⟩
                  exact ⟨r, rfl, hr, hx⟩
                · intro L v w hL hD hC hI
                  refine ⟨fun _ => ?_, fun hw => by cases hw⟩
                  have h3 : isP (v 3) ((((Pt.mul N1 P).add (Pt.mul N1 P)).add ((Pt.mul N1 P).add (Pt.mul N1 P))).add (((Pt.mul N1 P).add (Pt.mul N1 P)).add ((Pt.mul N1 P).add (Pt.mul N1 P)))) := hI.val 3 (hD 3 (by decide))
                  refine hI.val_step hL (by simp) ?_
                  rw [show readsOf plan_50_18 4 = [(57, 3)] from rfl]
                  refine give_call _ _ _ _ rfl rfl Try.func86 (by kernel_rfl) (by kernel_rfl) ?_
                  refine Calls.mono (wdouble_any h3 w) ?_
                  rintro e w' ⟨r, rfl, hr, hx⟩
                  exact ⟨r, rfl, hr, hx⟩
                · intro L v w hL hD hC hI
                  refine ⟨fun _ => ?_, fun hw => by cases hw⟩
                  refine hI.val_step hL (by simp) ?_
                  rw [show readsOf plan_50_18 5 = [] from rfl]
                  first | exact ⟨rfl, Ext.refl _⟩ | (go_simp; exact ⟨rfl, Ext.refl _⟩)
                · intro L v w hL hD hC hI
                  refine ⟨fun _ => ?_, fun hw => by cases hw⟩
                  have h5 : (v 5) = .int .u8 (n8 (b8 &&& 15)) := hI.val 5 (hD 5 (by decide))
                  refine hI.val_step hL (by simp) ?_
                  rw [show readsOf plan_50_18 6 = [(59, 5)] from rfl]
                  exact give_index _ _ _ _ rfl t (b8 &&& 15).toNat 16 16 .u8 rfl h5 uTab l2 iWd ⟨rfl, Ext.refl _⟩
                · intro L v w hL hD hC hI
                  refine ⟨fun _ => ?_, fun hw => by cases hw⟩
                  have h6 : (v 6) = .pointer (some ⟨t, (b8 &&& 15).toNat * 16, none⟩) := hI.val 6 (hD 6 (by decide))
                  refine hI.val_step hL (by simp) ?_
                  rw [show readsOf plan_50_18 7 = [(60, 6)] from rfl]
                  exact ld_T (R_t.keep hI.keep (by simp [ne_t_o, Ne.symm ne_t_o])) (b8 &&& 15).toNat l2 (by decide) _ rfl h6 fun u hu => ⟨hu, Ext.refl _⟩
                · intro L v w hL hD hC hI
                  refine ⟨fun _ => ?_, fun hw => by cases hw⟩
                  have h4 : isP (v 4) (((((Pt.mul N1 P).add (Pt.mul N1 P)).add ((Pt.mul N1 P).add (Pt.mul N1 P))).add (((Pt.mul N1 P).add (Pt.mul N1 P)).add ((Pt.mul N1 P).add (Pt.mul N1 P)))).add ((((Pt.mul N1 P).add (Pt.mul N1 P)).add ((Pt.mul N1 P).add (Pt.mul N1 P))).add (((Pt.mul N1 P).add (Pt.mul N1 P)).add ((Pt.mul N1 P).add (Pt.mul N1 P))))) := hI.val 4 (hD 4 (by decide))
                  have h7 : isP (v 7) (Pt.mul (b8 &&& 15).toNat P) := hI.val 7 (hD 7 (by decide))
                  refine hI.val_step hL (by simp) ?_
                  rw [show readsOf plan_50_18 8 = [(58, 4), (61, 7)] from rfl]
                  refine give_call _ _ _ _ rfl rfl Try.func83 (by kernel_rfl) (by kernel_rfl) ?_
                  refine Calls.mono (wplus_any h4 h7 w) ?_
                  rintro e w' ⟨r, rfl, hr, hx⟩
                  exact ⟨r, rfl, hr, hx⟩
                · intro L v w hL hD hC hI
                  refine ⟨fun _ => ?_, fun hw => by cases hw⟩
                  have h8 : isP (v 8) ((((((Pt.mul N1 P).add (Pt.mul N1 P)).add ((Pt.mul N1 P).add (Pt.mul N1 P))).add (((Pt.mul N1 P).add (Pt.mul N1 P)).add ((Pt.mul N1 P).add (Pt.mul N1 P)))).add ((((Pt.mul N1 P).add (Pt.mul N1 P)).add ((Pt.mul N1 P).add (Pt.mul N1 P))).add (((Pt.mul N1 P).add (Pt.mul N1 P)).add ((Pt.mul N1 P).add (Pt.mul N1 P))))).add (Pt.mul (b8 &&& 15).toNat P)) := hI.val 8 (hD 8 (by decide))
                  refine Inv.store_step hok hI hL ⟨none, o, 91, some 9, fun cs => isP (Value.agg (List.toArray cs)) (Pt.mul N1 P), fun cs => isP (Value.agg (List.toArray cs)) ((((((Pt.mul N1 P).add (Pt.mul N1 P)).add ((Pt.mul N1 P).add (Pt.mul N1 P))).add (((Pt.mul N1 P).add (Pt.mul N1 P)).add ((Pt.mul N1 P).add (Pt.mul N1 P)))).add ((((Pt.mul N1 P).add (Pt.mul N1 P)).add ((Pt.mul N1 P).add (Pt.mul N1 P))).add (((Pt.mul N1 P).add (Pt.mul N1 P)).add ((Pt.mul N1 P).add (Pt.mul N1 P))))).add (Pt.mul (b8 &&& 15).toNat P))⟩ (by simp) rfl (by simp) (by intro k hk; cases hk) ?_
                  intro n cs hb hR hold
                  change n = o at hb
                  subst hb
                  rw [show readsOf plan_50_18 9 = [(62, 8)] from rfl]
                  exact st_Pw hR (isP_len hold) _ _ rfl rfl h8 fun w' cs' hr he hk => ⟨trivial, hk, cs', hr, he⟩
                intro L v8 W8 hL hI
                have N_o : RV W8 o 91 (fun u => isP u ((((((Pt.mul N1 P).add (Pt.mul N1 P)).add ((Pt.mul N1 P).add (Pt.mul N1 P))).add (((Pt.mul N1 P).add (Pt.mul N1 P)).add ((Pt.mul N1 P).add (Pt.mul N1 P)))).add ((((Pt.mul N1 P).add (Pt.mul N1 P)).add ((Pt.mul N1 P).add (Pt.mul N1 P))).add (((Pt.mul N1 P).add (Pt.mul N1 P)).add ((Pt.mul N1 P).add (Pt.mul N1 P))))).add (Pt.mul (b8 &&& 15).toNat P))) := hI.row_new ⟨none, o, 91, some 9, fun cs => isP (Value.agg (List.toArray cs)) (Pt.mul N1 P), fun cs => isP (Value.agg (List.toArray cs)) ((((((Pt.mul N1 P).add (Pt.mul N1 P)).add ((Pt.mul N1 P).add (Pt.mul N1 P))).add (((Pt.mul N1 P).add (Pt.mul N1 P)).add ((Pt.mul N1 P).add (Pt.mul N1 P)))).add ((((Pt.mul N1 P).add (Pt.mul N1 P)).add ((Pt.mul N1 P).add (Pt.mul N1 P))).add (((Pt.mul N1 P).add (Pt.mul N1 P)).add ((Pt.mul N1 P).add (Pt.mul N1 P))))).add (Pt.mul (b8 &&& 15).toNat P))⟩ (by simp) rfl 9 rfl (hL 9 (by decide))
                replace R_bk := R_bk.keep hI.keep (by simp [ne_bk_o, Ne.symm ne_bk_o])
                replace R_b := R_b.keep hI.keep (by simp [ne_b_o, Ne.symm ne_b_o])
                replace R_r := R_r.keep hI.keep (by simp [ne_r_o, Ne.symm ne_r_o])
                replace R_t := R_t.keep hI.keep (by simp [ne_t_o, Ne.symm ne_t_o])
                clear R_o
                have R_o := N_o
                clear N_o
                replace lt_bk := Nat.lt_of_lt_of_le lt_bk hI.keep.size
                replace lt_b := Nat.lt_of_lt_of_le lt_b hI.keep.size
                replace lt_r := Nat.lt_of_lt_of_le lt_r hI.keep.size
                replace lt_t := Nat.lt_of_lt_of_le lt_t hI.keep.size
                replace lt_o := Nat.lt_of_lt_of_le lt_o hI.keep.size
                have hx' : Ext w W8 := Ext.keep_ hx hI.keep (by simp only [List.forall_mem_cons, List.not_mem_nil, false_implies, implies_true, and_true]; exact bs_o)
                have hs_59_18 : (v8 5) = .int .u8 (n8 (b8 &&& 15)) := hI.val 5 (hL 5 (by decide))
                have hk18 := hI.keep
                clear hx hI hL hok L
                have hx := hx'
                clear hx'
                simp only [putP, Act.put, List.setIfInBounds_toArray, List.set_cons_zero, List.set_cons_succ, hs_59_18]
                have hK4 := hK3.same hk18
                clear hK3 hk18
                rw [quad_pt, ← e2.out] at R_o
                go_wp2
                exact ⟨⟨2, by first | rfl | go_num, .inr (.inr ⟨rfl, R_o⟩), ⟨hK4.os, hK4.tape, hK4.output, hK4.size, hK4.keep⟩⟩, by simp [intOf]⟩
              · have hK4 := hK.same hK3
                rw [hN2.out] at R_o
                go_wp2
                exact ⟨⟨m, _, Nat.le_of_lt hm, rfl, hx4, R_o, ⟨hK4.os, hK4.tape, hK4.output, hK4.size, hK4.keep⟩⟩, by simp [intOf]; try omega⟩
          · obtain rfl : x = -1 := by omega
            obtain rfl : i = 0 := by omega
            rw [Nat.mul_zero, Nat.pow_zero, Nat.div_one] at R_o
            clear hxi hxi' hK
            go_upto_region 20 with fail
            have hok : TrsOk [r] wr.heap.size ([⟨none, r, 43, some 2, fun cs => cs.length = 64, fun cs => (Value.agg (List.toArray cs)) = .agg (pc (fb (Pt.mul N P).x) (fb (Pt.mul N P).y))⟩] : List Trk) := ⟨by simp [R_r.lt], by simp, by simp, by simp⟩
            refine wp_region_text (Inv [r] (fun j u => match j with | 0 => isP u (Pt.mul N P) | 1 => u = .agg (pc (fb (Pt.mul N P).x) (fb (Pt.mul N P).y)) | 3 => u = .nilIface | _ => True) [⟨none, r, 43, some 2, fun cs => cs.length = 64, fun cs => (Value.agg (List.toArray cs)) = .agg (pc (fb (Pt.mul N P).x) (fb (Pt.mul N P).y))⟩] wr) plan_50_20 [(64, 0), (65, 1), (5, 3)] 66 rfl (by kernel_rfl) (Inv.start0 hok (by
                simp only [List.forall_mem_cons, List.not_mem_nil, false_implies, implies_true, and_true]
                exact fun _ => R_r)) ⟨?_, ?_, ?_, ?_, trivial⟩ ?_
            · intro L v w hL hD hC hI
              refine ⟨fun _ => ?_, fun hw => by cases hw⟩
              refine hI.val_step hL (by simp) ?_
              rw [show readsOf plan_50_20 0 = [] from rfl]
              exact ld_Pw (R_o.keep hI.keep (by simp [ne_r_o, Ne.symm ne_r_o])) _ rfl rfl fun u hu => ⟨hu, Ext.refl _⟩
            · intro L v w hL hD hC hI
              refine ⟨fun _ => ?_, fun hw => by cases hw⟩
              have h0 : isP (v 0) (Pt.mul N P) := hI.val 0 (hD 0 (by decide))
              refine hI.val_step hL (by simp) ?_
              rw [show readsOf plan_50_20 1 = [(64, 0)] from rfl]
              refine give_call _ _ _ _ rfl rfl Try.func84 (by kernel_rfl) (by kernel_rfl) ?_
              refine Calls.mono (cout_any h0 w) ?_
              rintro e w' ⟨rfl, hx⟩
              exact ⟨_, rfl, rfl, hx⟩
            · intro L v w hL hD hC hI
              refine ⟨fun _ => ?_, fun hw => by cases hw⟩
              have h1 : (v 1) = .agg (pc (fb (Pt.mul N P).x) (fb (Pt.mul N P).y)) := hI.val 1 (hD 1 (by decide))
              refine Inv.store_step hok hI hL ⟨none, r, 43, some 2, fun cs => cs.length = 64, fun cs => (Value.agg (List.toArray cs)) = .agg (pc (fb (Pt.mul N P).x) (fb (Pt.mul N P).y))⟩ (by simp) rfl (by simp) (by intro k hk; cases hk) ?_
              intro n cs hb hR hold
              change n = r at hb
              subst hb
              rw [show readsOf plan_50_20 2 = [(65, 1)] from rfl]
              exact st_P hR hold _ _ rfl rfl h1 fun w' cs' hr he hk => ⟨trivial, hk, cs', hr, he⟩
            · intro L v w hL hD hC hI
              refine ⟨fun _ => ?_, fun hw => by cases hw⟩
              refine hI.val_step hL (by simp) ?_
              rw [show readsOf plan_50_20 3 = [] from rfl]
              first | exact ⟨rfl, Ext.refl _⟩ | (go_simp; exact ⟨rfl, Ext.refl _⟩)
            intro L v6 W6 hL hI
            have N_r : RV W6 r 43 (fun u => u = .agg (pc (fb (Pt.mul N P).x) (fb (Pt.mul N P).y))) := hI.row_new ⟨none, r, 43, some 2, fun cs => cs.length = 64, fun cs => (Value.agg (List.toArray cs)) = .agg (pc (fb (Pt.mul N P).x) (fb (Pt.mul N P).y))⟩ (by simp) rfl 2 rfl (hL 2 (by decide))
            replace R_bk := R_bk.keep hI.keep (by simp [ne_bk_r, Ne.symm ne_bk_r])
            replace R_b := R_b.keep hI.keep (by simp [ne_b_r, Ne.symm ne_b_r])
            replace R_t := R_t.keep hI.keep (by simp [ne_r_t, Ne.symm ne_r_t])
            replace R_o := R_o.keep hI.keep (by simp [ne_r_o, Ne.symm ne_r_o])
            clear R_r
            have R_r := N_r
            clear N_r
            replace lt_bk := Nat.lt_of_lt_of_le lt_bk hI.keep.size
            replace lt_b := Nat.lt_of_lt_of_le lt_b hI.keep.size
            replace lt_r := Nat.lt_of_lt_of_le lt_r hI.keep.size
            replace lt_t := Nat.lt_of_lt_of_le lt_t hI.keep.size
            replace lt_o := Nat.lt_of_lt_of_le lt_o hI.keep.size
            have hx' : Ext w W6 := Ext.keep_ hx hI.keep (by simp only [List.forall_mem_cons, List.not_mem_nil, false_implies, implies_true, and_true]; exact bs_r)
            have hs_5_20 : (v6 3) = .nilIface := hI.val 3 (hL 3 (by decide))
            clear hx hI hL hok L
            have hx := hx'
            clear hx'
            simp only [putP, Act.put, List.setIfInBounds_toArray, List.set_cons_zero, List.set_cons_succ, hs_5_20]
            go_wp2
            refine bodyPost_ret (results_P2 rfl _ R_r rfl) rfl ?_
            refine ⟨?_, hx⟩
            rfl
end Go.Proofs.Ytndohjgfjbopnaa
