/-
  Slices of arrays, arrays out of slices, digests and secrets in rows: what single operations give.
-/
import Derived.Test.YtgeihelkkhjjaaaDoorStp
import Derived.Test.YtgeihelkkhjjaaaDoorSgB
import Derived.Test.YtgeihelkkhjjaaaDoorSgS
import Derived.Test.YtgeihelkkhjjaaaDoorSC
set_option linter.unusedSimpArgs false
set_option linter.unusedVariables false
namespace Go.Cv
open Go Go.RowKit Go.Cv.Hash
theorem add_addr (n a b : Nat) : (⟨n, a, none⟩ : Addr).add b = ⟨n, a + b, none⟩ := by unfold Addr.add; split <;> simp_all
theorem bcells_lf (l : List UInt8) (k : Nat) (h : k + 32 ≤ l.length) : ((l.map bv).drop k).take 32 = (bcells (lf l k)).toList := by
  rw [bcells_list]
  simp only [blist_lf l k h, List.map_take, List.map_drop]
  rfl
theorem bcells_blist (f : Nat → UInt8) : (bcells f).toList = (blist f).map bv := by rw [bcells_list]; rfl
theorem Rd.row {w : World} {n : Nat} {T : TypeId} {cs : List Value} (h : Row w n T cs) : Rd w (some ⟨n, 0, none⟩) cs := fun k v hv => by
  have hk : k < cs.length := by
    rcases Nat.lt_or_ge k cs.length with h0 | h0
    · exact h0
    · rw [List.getElem?_eq_none h0] at hv; cases hv
  refine ⟨⟨n, 0, none⟩, rfl, ?_⟩
  rw [add_addr, Nat.zero_add, h.cell hk]
  rw [List.getElem?_eq_getElem hk] at hv
  exact hv
theorem Rd.at_off {w : World} {n k : Nat} {T : TypeId} {cs : List Value} (h : Row w n T cs) : Rd w (some ⟨n, k, none⟩) (cs.drop k) := fun j v hv => by
  rw [List.getElem?_drop] at hv
  have hk : k + j < cs.length := by
    rcases Nat.lt_or_ge (k + j) cs.length with h0 | h0
    · exact h0
    · rw [List.getElem?_eq_none h0] at hv; cases hv
  refine ⟨⟨n, k, none⟩, rfl, ?_⟩
  rw [add_addr, h.cell hk]
  rw [List.getElem?_eq_getElem hk] at hv
  exact hv
theorem Rd.take_ {w : World} {A : Option Addr} {cs : List Value} (h : Rd w A cs) (k : Nat) : Rd w A (cs.take k) := fun j v hv => by
  rw [List.getElem?_take] at hv
  split at hv
  · exact h j v hv
  · cases hv
section
variable {P : Program} {w : World} {o : Oper} {ev : Operand → Value} {R : Value → World → Prop} {n : Nat}
theorem give_load_rd (ty : TypeId) (x : Operand) (ho : o.op = .load ty x) (ad : Addr) (hx : ev x = .pointer (some ad)) (part : List Value) (hr : Rd w (some ad) part) (d : TypeDesc)
    (hu : P.underlying ty = some d) (hd : (match d with | .struct _ | .array _ _ => true | _ => false) = true) (hi : (P.info? ty).map (·.size) = some part.length) (h : R (.agg part.toArray) w) : Gives P R ((execOp ev o).run P w) := by
  have hl : (loadCells ad part.length).run P w = .ok part.toArray w :=
    run_loadCells_list (P := P) w ad part (fun j v hv => by
      obtain ⟨ad', e, hc⟩ := hr j v hv
      injection e with e
      rw [e]; exact hc)
  have hagg : (isAgg ty).run P w = .ok true w := by
    unfold isAgg
    rw [Sem.run_bind, run_underlying hu w]
    cases d <;> simp_all
  unfold execOp
  cases hq : P.info? ty with
  | none => simp [hq] at hi
  | some i =>
    have hs : i.size = part.length := by simpa [hq] using hi
    simp only [ho, hx, Instr.loadAt, Instr.sureAddr, loadVar, Sem.run_bind, Sem.run_pure, Result.andThen_ok, hagg]
    simp [Go.sizeOf, typeInfo, hq, hs, hl]
    exact h
theorem give_arr (ty : TypeId) (x : Operand) (ho : o.op = .sliceToArrayPointer ty x) (A : Option Addr) (m c k : Nat) (e : TypeId) (hx : ev x = .slice A m c) (hu : P.underlying ty = some (.array k e)) (hk : k ≤ m) (h : R (.pointer A) w) : Gives P R ((execOp ev o).run P w) := by
  unfold execOp
  have hn : ¬ m < k := by omega
  simp [ho, hx, Instr.arrayAt, run_underlying hu, hn]
  exact h
end
end Go.Cv
namespace Go.Proofs.YtgeihelkkhjjaaaDoor
open Go.RowKit Go.Cv Go.Cv.Pr Go.Cv.Grp Go.Cv.Hash
theorem u64a : Tryd.prog.underlying 26 = some (.array 64 5) := Tryd.underlying26
section
variable {w : World} {o : Oper} {ev : Operand → Value} {R : Value → World → Prop} {n : Nat} {f g : Nat → UInt8} {l : List UInt8}
/-- A digest's or a signature's 64 bytes. -/
def h64 (l : List UInt8) : Value := .agg (l.map bv).toArray
theorem hL_of {cs : List Value} (h : (.agg cs.toArray : Value) = h64 l) : cs = l.map bv := by
  unfold h64 at h
  injection h with h
  have := congrArg Array.toList h
  simpa using this
theorem al_H (ho : o.op = .alloc 26) (h : ∀ cs : List Value, cs.length = 64 → R (.pointer (some ⟨w.heap.size, 0, none⟩)) (w.alloc (.cells cs.toArray 26))) : Gives Tryd.prog R ((execOp ev o).run Tryd.prog w) := by
  unfold execOp
  rw [ho]
  go_simp
  exact h (pcL (fun _ => 0) (fun _ => 0)) (pcL_len _ _)
theorem al_S (ho : o.op = .alloc 37) (h : ∀ cs : List Value, cs.length = 64 → R (.pointer (some ⟨w.heap.size, 0, none⟩)) (w.alloc (.cells cs.toArray 37))) : Gives Tryd.prog R ((execOp ev o).run Tryd.prog w) := by
  unfold execOp
  rw [ho]
  go_simp
  exact h (pcL (fun _ => 0) (fun _ => 0)) (pcL_len _ _)
theorem st_H {cs : List Value} (hR : Row w n 26 cs) (hc : cs.length = 64) (hl : l.length = 64) (p q : Operand) (ho : o.op = .store 26 p q) (hx : ev p = .pointer (some ⟨n, 0, none⟩)) (hy : ev q = h64 l)
    (h : ∀ w' cs', Row w' n 26 cs' → (.agg (List.toArray cs') : Value) = h64 l → Keep [n] w w' → R undef w') : Gives Tryd.prog R ((execOp ev o).run Tryd.prog w) :=
  give_store_row _ p q ho n (l.map bv).toArray hx hy hR (by simp only [List.size_toArray, List.length_map, hl]; exact info64) (by simp [hl, hc]) (Array.all_eq_true_iff_forall_mem.2 (fun v hv => one_map_bv l v (by simpa using hv))) fun w' hr hk => h w' _ hr rfl hk
theorem st_S {cs : List Value} (hR : Row w n 37 cs) (hl : cs.length = 64) (p q : Operand) (ho : o.op = .store 37 p q) (hx : ev p = .pointer (some ⟨n, 0, none⟩)) (hy : ev q = .agg (pc f g))
    (h : ∀ w' cs', Row w' n 37 cs' → (.agg (List.toArray cs') : Value) = .agg (pc f g) → Keep [n] w w' → R undef w') : Gives Tryd.prog R ((execOp ev o).run Tryd.prog w) :=
  give_store_row _ p q ho n (pc f g) hx hy hR (by rw [pc_size]; exact iSe) (by rw [pc_size]; exact hl) (pc_one f g) fun w' hr hk => h w' _ hr (by rw [Array.toArray_toList]) hk
/-- 32 of 64 bytes. -/
theorem ld_Hk (k : Nat) (hR : RV w n 26 (fun u => u = h64 l)) (hl : l.length = 64) (hk : k + 32 ≤ 64) (p : Operand) (ho : o.op = .load 22 p) (hx : ev p = .pointer (some ⟨n, k, none⟩)) (h : ∀ u, u = .agg (bcells (lf l k)) → R u w) : Gives Tryd.prog R ((execOp ev o).run Tryd.prog w) := by
  obtain ⟨cs, h1, h2⟩ := hR
  rw [hL_of h2] at h1
  exact give_load_part _ p ho n k hx h1 (bcells (lf l k)).toList (by simp only [Array.length_toList, bcells_size]; exact bcells_lf l k (by omega)) _ u22 rfl (by simpa using i22) (h _ (by rw [Array.toArray_toList]))
/-- 32 bytes out of whatever is read. -/
theorem ld_rd32 {ad : Addr} (k : Nat) (hr : Rd w (some ad) ((l.map bv).drop k)) (hl : k + 32 ≤ l.length) (p : Operand) (ho : o.op = .load 22 p) (hx : ev p = .pointer (some ad)) (h : ∀ u, u = .agg (bcells (lf l k)) → R u w) : Gives Tryd.prog R ((execOp ev o).run Tryd.prog w) := by
  have h2 := hr.take_ 32
  rw [bcells_lf l k hl] at h2
  exact give_load_rd _ p ho ad hx _ h2 _ u22 rfl (by simpa using i22) (h _ (by rw [Array.toArray_toList]))
theorem bd_S (p q : Operand) (ho : o.op = .build 37 #[(0, p), (1, q)]) (hp : ev p = .agg (bcells f)) (hq : ev q = .agg (bcells g)) (h : ∀ u, u = .agg (pc f g) → R u w) : Gives Tryd.prog R ((execOp ev o).run Tryd.prog w) := by
  unfold execOp
  simp only [ho]
  simp only [List.map_toArray, List.map_cons, List.map_nil, Array.map_map, Function.comp_def, hp, hq]
  go_simp
  refine h _ ?_
  rw [pc_eq]
theorem sl32 {off : Nat} (p : Operand) (ho : o.op = .slice 22 p none none none) (hx : ev p = .pointer (some ⟨n, off, none⟩)) (h : R (.slice (some ⟨n, off, none⟩) 32 32) w) : Gives Tryd.prog R ((execOp ev o).run Tryd.prog w) := by
  unfold execOp
  simp only [ho, hx, Option.map_none]
  go_simp
  exact h
theorem sl64 (p : Operand) (ho : o.op = .slice 26 p none none none) (hx : ev p = .pointer (some ⟨n, 0, none⟩)) (h : R (.slice (some ⟨n, 0, none⟩) 64 64) w) : Gives Tryd.prog R ((execOp ev o).run Tryd.prog w) := by
  unfold execOp
  simp only [ho, hx, Option.map_none]
  go_simp
  exact h
theorem sl64lo (p : Operand) (ho : o.op = .slice 26 p (some (.const (.int .i64 32))) none none) (hc : ev (.const (.int .i64 32)) = .int .i64 32) (hx : ev p = .pointer (some ⟨n, 0, none⟩)) (h : R (.slice (some ⟨n, 32, none⟩) 32 32) w) : Gives Tryd.prog R ((execOp ev o).run Tryd.prog w) := by
  unfold execOp
  simp only [ho, hx, Option.map_none, Option.map_some, hc]
  go_simp
  exact h
theorem sl64hi (p : Operand) (ho : o.op = .slice 26 p none (some (.const (.int .i64 32))) none) (hc : ev (.const (.int .i64 32)) = .int .i64 32) (hx : ev p = .pointer (some ⟨n, 0, none⟩)) (h : R (.slice (some ⟨n, 0, none⟩) 32 64) w) : Gives Tryd.prog R ((execOp ev o).run Tryd.prog w) := by
  unfold execOp
  simp only [ho, hx, Option.map_none, Option.map_some, hc]
  go_simp
  exact h
theorem ld_Sb (k : Nat) (hk : k < 32) (hR : RV w n 37 (fun u => u = .agg (pc f g))) (p : Operand) (ho : o.op = .load 5 p) (hx : ev p = .pointer (some ⟨n, k * 1, none⟩)) (h : ∀ u, u = .int .u8 (n8 (f k)) → R u w) : Gives Tryd.prog R ((execOp ev o).run Tryd.prog w) := by
  obtain ⟨cs, h1, h2⟩ := hR
  rw [pcL_of h2] at h1
  refine give_load_cell0 _ p ho n (k * 1) hx h1 (.int .u8 (n8 (f k))) ?_ _ u5_ rfl (h _ rfl)
  rw [Nat.mul_one]
  unfold pcL
  rw [List.getElem?_append_left (by simpa using hk), Array.getElem?_toList]
  exact bcells_get f hk
theorem pcL_set (k : Nat) (hk : k < 32) (v : UInt8) : (pcL f g).take k ++ #[Value.int .u8 (n8 v)].toList ++ (pcL f g).drop (k + 1) = pcL (updb f k v) g := by
  have h1 : pcL (updb f k v) g = (pcL f g).set k (.int .u8 (n8 v)) := by
    unfold pcL
    rw [← bcells_set, Array.toList_setIfInBounds, List.set_append, if_pos (by simpa using hk)]
  rw [h1, List.set_eq_take_append_cons_drop, if_pos (by rw [pcL_len]; omega)]
  simp
theorem give_store_cell (ty : TypeId) (x y : Operand) (ho : o.op = .store ty x y) (k : Nat) (v : Value) (hx : ev x = .pointer (some ⟨n, k, none⟩)) (hy : ev y = v) {T : TypeId} {cs : List Value} (hR : Row w n T cs) (hk : k < cs.length)
    (hi : (Tryd.prog.info? ty).map (·.size) = some 1) (h1 : v.oneCell' = true)
    (h : ∀ w', Row w' n T (cs.take k ++ v :: cs.drop (k + 1)) → Keep [n] w w' → R undef w') : Gives Tryd.prog R ((execOp ev o).run Tryd.prog w) := by
  have hst := run_storeCells_at (P := Tryd.prog) n k T [v] 0 cs.toArray w hR (by simp; omega) (fun u hu => by rw [List.mem_singleton.1 hu]; exact h1)
  have hc : v.cells = #[v] := by cases v <;> first | rfl | cases h1
  have hrun : (storeVar ty ⟨n, k, none⟩ v).run Tryd.prog w = .ok () (w.setRow n (cs.take k ++ v :: cs.drop (k + 1)).toArray) := by
    cases hq : Tryd.prog.info? ty with
    | none => simp [hq] at hi
    | some i =>
      have hs : i.size = 1 := by simpa [hq] using hi
      simp only [Nat.add_zero, List.length_singleton] at hst
      simp [storeVar, Go.sizeOf, typeInfo, hq, hc, hs, hst]
  unfold execOp
  simp only [ho, hx, hy, Instr.storeAt, Instr.sureAddr, Sem.run_bind, Sem.run_pure, Result.andThen_ok, hrun]
  refine h _ ?_ ?_
  · exact setRow_heap w n _ _ T (0, 0) hR
  · refine ⟨rfl, rfl, rfl, by simp [World.setRow], fun k _ hk => ?_⟩
    exact setRow_other w n k _ (by simpa using hk)
theorem st_Sb {cs : List Value} (k : Nat) (hk : k < 32) (v : UInt8) (hR : Row w n 37 cs) (hc : (.agg cs.toArray : Value) = .agg (pc f g)) (p q : Operand) (ho : o.op = .store 5 p q) (hx : ev p = .pointer (some ⟨n, k * 1, none⟩)) (hy : ev q = .int .u8 (n8 v))
    (h : ∀ w' cs', Row w' n 37 cs' → (.agg (List.toArray cs') : Value) = .agg (pc (updb f k v) g) → Keep [n] w w' → R undef w') : Gives Tryd.prog R ((execOp ev o).run Tryd.prog w) := by
  have hcs := pcL_of hc
  refine give_store_cell _ p q ho (k * 1) _ hx hy hR (by rw [hcs, pcL_len]; omega) i5_ rfl fun w' hr hk' => h w' _ hr ?_ hk'
  have h2 := pcL_set (f := f) (g := g) k hk v
  rw [Nat.mul_one, hcs]
  simp only [List.append_assoc] at h2
  exact congrArg (fun z : List Value => (Value.agg z.toArray)) h2
theorem g_and (b : UInt8) (c : Int) (p q : Operand) (t : TypeId) (ho : o.op = .binOp .and 5 p q t) (hx : ev p = .int .u8 (n8 b)) (hy : ev q = .int .u8 c) (h : R (.int .u8 (n8 (b &&& u8 c))) w) : Gives Tryd.prog R ((execOp ev o).run Tryd.prog w) := by
  unfold execOp
  simp only [ho, hx, hy]
  go_simp
  exact h
theorem g_or (b : UInt8) (c : Int) (p q : Operand) (t : TypeId) (ho : o.op = .binOp .or 5 p q t) (hx : ev p = .int .u8 (n8 b)) (hy : ev q = .int .u8 c) (h : R (.int .u8 (n8 (b ||| u8 c))) w) : Gives Tryd.prog R ((execOp ev o).run Tryd.prog w) := by
  unfold execOp
  simp only [ho, hx, hy]
  go_simp
  exact h
theorem pc_congr {f' : Nat → UInt8} (h : ∀ i, i < 32 → f i = f' i) : pc f g = pc f' g := by rw [pc_eq, pc_eq, bcells_congr h]
theorem gSum (l : List Operand) (ats : Array TypeId) (ho : o.op = .call { callee := .value (.func 23), args := l.toArray, argTypes := ats }) (hev : ev (.func 23) = .func (.func 23) #[] #[]) (h : Calls Tryd.prog 23 (l.map ev).toArray w (fun e w' => ∃ u, e = .returned u ∧ R u w')) : Gives Tryd.prog R ((execOp ev o).run Tryd.prog w) :=
  give_call _ _ l ats ho hev Tryd.func23 (by kernel_rfl) (by kernel_rfl) h
theorem gDig (l : List Operand) (ats : Array TypeId) (ho : o.op = .call { callee := .value (.func 15), args := l.toArray, argTypes := ats }) (hev : ev (.func 15) = .func (.func 15) #[] #[]) (h : Calls Tryd.prog 15 (l.map ev).toArray w (fun e w' => ∃ u, e = .returned u ∧ R u w')) : Gives Tryd.prog R ((execOp ev o).run Tryd.prog w) :=
  give_call _ _ l ats ho hev Tryd.func15 (by kernel_rfl) (by kernel_rfl) h
theorem gsBase (l : List Operand) (ats : Array TypeId) (ho : o.op = .call { callee := .value (.func 16), args := l.toArray, argTypes := ats }) (hev : ev (.func 16) = .func (.func 16) #[] #[]) (h : Calls Tryd.prog 16 (l.map ev).toArray w (fun e w' => ∃ u, e = .returned u ∧ R u w')) : Gives Tryd.prog R ((execOp ev o).run Tryd.prog w) :=
  give_call _ _ l ats ho hev Tryd.func16 (by kernel_rfl) (by kernel_rfl) h
theorem gKey (l : List Operand) (ats : Array TypeId) (ho : o.op = .call { callee := .value (.func 14), args := l.toArray, argTypes := ats }) (hev : ev (.func 14) = .func (.func 14) #[] #[]) (h : Calls Tryd.prog 14 (l.map ev).toArray w (fun e w' => ∃ u, e = .returned u ∧ R u w')) : Gives Tryd.prog R ((execOp ev o).run Tryd.prog w) :=
  give_call _ _ l ats ho hev Tryd.func14 (by kernel_rfl) (by kernel_rfl) h
theorem gsOf (l : List Operand) (ats : Array TypeId) (ho : o.op = .call { callee := .value (.func 13), args := l.toArray, argTypes := ats }) (hev : ev (.func 13) = .func (.func 13) #[] #[]) (h : Calls Tryd.prog 13 (l.map ev).toArray w (fun e w' => ∃ u, e = .returned u ∧ R u w')) : Gives Tryd.prog R ((execOp ev o).run Tryd.prog w) :=
  give_call _ _ l ats ho hev Tryd.func13 (by kernel_rfl) (by kernel_rfl) h
theorem gLow (l : List Operand) (ats : Array TypeId) (ho : o.op = .call { callee := .value (.func 18), args := l.toArray, argTypes := ats }) (hev : ev (.func 18) = .func (.func 18) #[] #[]) (h : Calls Tryd.prog 18 (l.map ev).toArray w (fun e w' => ∃ u, e = .returned u ∧ R u w')) : Gives Tryd.prog R ((execOp ev o).run Tryd.prog w) :=
  give_call _ _ l ats ho hev Tryd.func18 (by kernel_rfl) (by kernel_rfl) h
theorem gChk (l : List Operand) (ats : Array TypeId) (ho : o.op = .call { callee := .value (.func 19), args := l.toArray, argTypes := ats }) (hev : ev (.func 19) = .func (.func 19) #[] #[]) (h : Calls Tryd.prog 19 (l.map ev).toArray w (fun e w' => ∃ u, e = .returned u ∧ R u w')) : Gives Tryd.prog R ((execOp ev o).run Tryd.prog w) :=
  give_call _ _ l ats ho hev Tryd.func19 (by kernel_rfl) (by kernel_rfl) h
theorem gEqu (l : List Operand) (ats : Array TypeId) (ho : o.op = .call { callee := .value (.func 20), args := l.toArray, argTypes := ats }) (hev : ev (.func 20) = .func (.func 20) #[] #[]) (h : Calls Tryd.prog 20 (l.map ev).toArray w (fun e w' => ∃ u, e = .returned u ∧ R u w')) : Gives Tryd.prog R ((execOp ev o).run Tryd.prog w) :=
  give_call _ _ l ats ho hev Tryd.func20 (by kernel_rfl) (by kernel_rfl) h
theorem gSca (l : List Operand) (ats : Array TypeId) (ho : o.op = .call { callee := .value (.func 24), args := l.toArray, argTypes := ats }) (hev : ev (.func 24) = .func (.func 24) #[] #[]) (h : Calls Tryd.prog 24 (l.map ev).toArray w (fun e w' => ∃ u, e = .returned u ∧ R u w')) : Gives Tryd.prog R ((execOp ev o).run Tryd.prog w) :=
  give_call _ _ l ats ho hev Tryd.func24 (by kernel_rfl) (by kernel_rfl) h
theorem gPub (l : List Operand) (ats : Array TypeId) (ho : o.op = .call { callee := .value (.func 5), args := l.toArray, argTypes := ats }) (hev : ev (.func 5) = .func (.func 5) #[] #[]) (h : Calls Tryd.prog 5 (l.map ev).toArray w (fun e w' => ∃ u, e = .returned u ∧ R u w')) : Gives Tryd.prog R ((execOp ev o).run Tryd.prog w) :=
  give_call _ _ l ats ho hev Tryd.func5 (by kernel_rfl) (by kernel_rfl) h
theorem gSig (l : List Operand) (ats : Array TypeId) (ho : o.op = .call { callee := .value (.func 6), args := l.toArray, argTypes := ats }) (hev : ev (.func 6) = .func (.func 6) #[] #[]) (h : Calls Tryd.prog 6 (l.map ev).toArray w (fun e w' => ∃ u, e = .returned u ∧ R u w')) : Gives Tryd.prog R ((execOp ev o).run Tryd.prog w) :=
  give_call _ _ l ats ho hev Tryd.func6 (by kernel_rfl) (by kernel_rfl) h
theorem gVer (l : List Operand) (ats : Array TypeId) (ho : o.op = .call { callee := .value (.func 7), args := l.toArray, argTypes := ats }) (hev : ev (.func 7) = .func (.func 7) #[] #[]) (h : Calls Tryd.prog 7 (l.map ev).toArray w (fun e w' => ∃ u, e = .returned u ∧ R u w')) : Gives Tryd.prog R ((execOp ev o).run Tryd.prog w) :=
  give_call _ _ l ats ho hev Tryd.func7 (by kernel_rfl) (by kernel_rfl) h
theorem gSeed (l : List Operand) (ats : Array TypeId) (ho : o.op = .call { callee := .value (.func 12), args := l.toArray, argTypes := ats }) (hev : ev (.func 12) = .func (.func 12) #[] #[]) (h : Calls Tryd.prog 12 (l.map ev).toArray w (fun e w' => ∃ u, e = .returned u ∧ R u w')) : Gives Tryd.prog R ((execOp ev o).run Tryd.prog w) :=
  give_call _ _ l ats ho hev Tryd.func12 (by kernel_rfl) (by kernel_rfl) h
theorem gShown (l : List Operand) (ats : Array TypeId) (ho : o.op = .call { callee := .value (.func 4), args := l.toArray, argTypes := ats }) (hev : ev (.func 4) = .func (.func 4) #[] #[]) (h : Calls Tryd.prog 4 (l.map ev).toArray w (fun e w' => ∃ u, e = .returned u ∧ R u w')) : Gives Tryd.prog R ((execOp ev o).run Tryd.prog w) :=
  give_call _ _ l ats ho hev Tryd.func4 (by kernel_rfl) (by kernel_rfl) h
end
theorem results_S {fn : Func} {p : Tmp} (h : fn.results = #[.cell p 37]) (tmps : Array Value) {W : World} {n : Nat} {f g : Nat → UInt8} (hR : RV W n 37 (fun u => u = .agg (pc f g)))
    (hp : tmps.getD p undef = .pointer (some ⟨n, 0, none⟩)) : (results fn tmps).run Tryd.prog W = .ok (.agg (pc f g)) W := by
  obtain ⟨cs, h1, h2⟩ := hR
  have e := pcL_of h2
  subst e
  obtain ⟨fs, hu⟩ := uSe
  rw [← h2]
  exact results_cell_row (P := Tryd.prog) h tmps W n _ _ (0, 0) _ hp h1 hu rfl (by simp only [List.size_toArray, pcL_len]; exact iSe)
theorem results_H {fn : Func} {p : Tmp} (h : fn.results = #[.cell p 26]) (tmps : Array Value) {W : World} {n : Nat} {l : List UInt8} (hl : l.length = 64) (hR : RV W n 26 (fun u => u = h64 l))
    (hp : tmps.getD p undef = .pointer (some ⟨n, 0, none⟩)) : (results fn tmps).run Tryd.prog W = .ok (h64 l) W := by
  obtain ⟨cs, h1, h2⟩ := hR
  have e := hL_of h2
  subst e
  exact results_cell_row (P := Tryd.prog) h tmps W n _ _ (0, 0) _ hp h1 u64a rfl (by simp only [List.size_toArray, List.length_map, hl]; exact info64)
theorem rd_B {w : World} {n : Nat} {T : TypeId} {f : Nat → UInt8} (h : RV w n T (fun u => u = .agg (bcells f))) : Rd w (some ⟨n, 0, none⟩) ((blist f).map bv) := by
  obtain ⟨cs, h1, h2⟩ := h
  rw [bL_of h2, bcells_blist] at h1
  exact Rd.row h1
theorem rd_H {w : World} {n : Nat} {T : TypeId} {l : List UInt8} (h : RV w n T (fun u => u = h64 l)) : Rd w (some ⟨n, 0, none⟩) (l.map bv) := by
  obtain ⟨cs, h1, h2⟩ := h
  rw [hL_of h2] at h1
  exact Rd.row h1
theorem rd_Hk {w : World} {n : Nat} {T : TypeId} {l : List UInt8} (k : Nat) (h : RV w n T (fun u => u = h64 l)) : Rd w (some ⟨n, k, none⟩) ((l.drop k).map bv) := by
  obtain ⟨cs, h1, h2⟩ := h
  rw [hL_of h2] at h1
  rw [List.map_drop]
  exact Rd.at_off h1
/-- The mark in a secret's row. -/
theorem rd_Sm {w : World} {n : Nat} {T : TypeId} {f g : Nat → UInt8} (h : RV w n T (fun u => u = .agg (pc f g))) : Rd w (some ⟨n, 32, none⟩) ((blist g).map bv) := by
  obtain ⟨cs, h1, h2⟩ := h
  rw [pcL_of h2] at h1
  have := Rd.at_off (k := 32) h1
  have e : (pcL f g).drop 32 = (blist g).map bv := by
    unfold pcL
    rw [List.drop_append_of_le_length (by simp), List.drop_of_length_le (by simp), List.nil_append, bcells_blist]
  rwa [e] at this
end Go.Proofs.YtgeihelkkhjjaaaDoor
