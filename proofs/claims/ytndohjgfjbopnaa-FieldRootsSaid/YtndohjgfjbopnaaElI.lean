/-
  Rows of 32 bytes: when two are alike.
-/
import Derived.Test.YtndohjgfjbopnaaElG
import Derived.Stop.BytesEq
set_option linter.unusedSimpArgs false
set_option linter.unusedVariables false
namespace Go.Cv
open Go.RowKit
@[go_sem] theorem zero_bcells : (#[.int .u8 0, .int .u8 0, .int .u8 0, .int .u8 0, .int .u8 0, .int .u8 0, .int .u8 0, .int .u8 0, .int .u8 0, .int .u8 0, .int .u8 0, .int .u8 0, .int .u8 0, .int .u8 0, .int .u8 0, .int .u8 0, .int .u8 0, .int .u8 0, .int .u8 0, .int .u8 0, .int .u8 0, .int .u8 0, .int .u8 0, .int .u8 0, .int .u8 0, .int .u8 0, .int .u8 0, .int .u8 0, .int .u8 0, .int .u8 0, .int .u8 0, .int .u8 0] : Array Value) = bcells (fun _ => 0) := bcells_zero.symm
/-- A block's cells. -/
def rowOf (W : World) (n : Nat) : Array Value := match W.heap[n]? with | some (.cells c _ _) => c | _ => #[]
/-- A block of 32 cells that may be written. -/
def isB (W : World) (n : Nat) : Prop := ∃ c t, W.heap[n]? = some (.cells c t (0, 0)) ∧ c.size = 32
theorem ext_heap {w w' : World} (h : Ext w w') {n : Nat} (hn : n < w.heap.size) : w'.heap[n]? = w.heap[n]? := h.block n hn
@[go_sem] theorem rowOf_at {w : World} (c : Array Value) (t : TypeId) (n : Nat) (hn : n = w.heap.size) : rowOf (w.alloc (.cells c t)) n = c := by
  subst hn
  unfold rowOf
  rw [heap_alloc_last]
@[go_sem] theorem rowOf_past {w : World} (o : Obj) (n : Nat) (hn : n < w.heap.size) : rowOf (w.alloc o) n = rowOf w n := by
  unfold rowOf
  rw [ext_heap (ext_alloc w o) hn]
@[go_sem] theorem rowOf_grw {w : World} (x : Nat × Array Obj) (n : Nat) (hn : n < w.heap.size) : rowOf (grw w x) n = rowOf w n := by
  unfold rowOf
  rw [ext_heap (grw_ext w x) hn]
@[go_sem] theorem isB_at {w : World} (c : Array Value) (t : TypeId) (n : Nat) (hn : n = w.heap.size) (hc : c.size = 32) : isB (w.alloc (.cells c t)) n = True := by
  subst hn
  exact eq_true ⟨c, t, heap_alloc_last _ _, hc⟩
@[go_sem] theorem isB_past {w : World} (o : Obj) (n : Nat) (hn : n < w.heap.size) : isB (w.alloc o) n = isB w n := by
  unfold isB
  rw [ext_heap (ext_alloc w o) hn]
@[go_sem] theorem isB_grw {w : World} (x : Nat × Array Obj) (n : Nat) (hn : n < w.heap.size) : isB (grw w x) n = isB w n := by
  unfold isB
  rw [ext_heap (grw_ext w x) hn]
@[go_sem] theorem setRow_at_ {w : World} (c c' : Array Value) (t : TypeId) (n : Nat) (hn : n = w.heap.size) : (w.alloc (.cells c t)).setRow n c' = w.alloc (.cells c' t) := by
  subst hn
  exact World.setRow_alloc_new w c c' t
attribute [go_sem] setRow_alloc_past setRow_grw
/-- The bytes as a list. -/
def blist (f : Nat → UInt8) : List UInt8 := (List.range 32).map f
theorem blist_len (f : Nat → UInt8) : (blist f).length = 32 := by simp [blist]
theorem bcells_list (f : Nat → UInt8) : bcells f = ((blist f).map Extern.Stop.cell).toArray := by
  apply Array.ext_getElem?
  intro i
  by_cases hi : i < 32
  · rw [bcells_get f hi]
    simp [blist, hi, Extern.Stop.cell]
    rfl
  · rw [Array.getElem?_eq_none (by rw [bcells_size]; omega), Array.getElem?_eq_none (by simp [blist]; omega)]
/-- Alike in all 32 places. -/
def beqb (f g : Nat → UInt8) : Bool := blist f == blist g
theorem beqb_iff (f g : Nat → UInt8) : beqb f g = true ↔ ∀ i, i < 32 → f i = g i := by
  unfold beqb blist
  rw [beq_iff_eq, List.map_inj_left]
  simp
theorem nb_inj {n m : Nat} (hn : n < 2 ^ 256) (hm : m < 2 ^ 256) (h : ∀ i, i < 32 → nb n i = nb m i) : n = m := by
  have key : ∀ k, k ≤ 32 → n % 2 ^ (8 * k) = m % 2 ^ (8 * k) := by
    intro k
    induction k with
    | zero => intro _; simp [Nat.mod_one]
    | succ k ih =>
      intro hk
      have h1 := ih (by omega)
      have h2 := h k (by omega)
      unfold nb at h2
      have h3 := congrArg UInt8.toNat h2
      rw [UInt8.toNat_ofNat', UInt8.toNat_ofNat'] at h3
      rw [show 8 * (k + 1) = 8 * k + 8 from by omega, Nat.pow_add, Nat.mod_mul, Nat.mod_mul, h1, h3]
  have := key 32 (Nat.le_refl _)
  rwa [Nat.mod_eq_of_lt hn, Nat.mod_eq_of_lt hm] at this
theorem beqb_nb {n m : Nat} (hn : n < 2 ^ 256) (hm : m < 2 ^ 256) : beqb (nb n) (nb m) = decide (n = m) := by
  rw [Bool.eq_iff_iff, beqb_iff, decide_eq_true_iff]
  exact ⟨nb_inj hn hm, fun h i _ => by rw [h]⟩
theorem beqb_mod (n m : Nat) : beqb (nb (n % (2 ^ 255 - 19))) (nb (m % (2 ^ 255 - 19))) = decide (Eqp n m) :=
  beqb_nb (Nat.lt_trans (Nat.mod_lt _ (by decide)) (by decide)) (Nat.lt_trans (Nat.mod_lt _ (by decide)) (by decide))
end Go.Cv
namespace Go.Proofs.Ytndohjgfjbopnaa
open Go.RowKit Go.Cv
theorem s5_ : ∀ w, (sizeOf 5).run Try.prog w = .ok 1 w := fun w => by
  have h : (Try.prog.info? 5).map (·.size) = some 1 := by kernel_rfl
  cases hq : Try.prog.info? 5 with
  | none => simp [hq] at h
  | some i => simp [hq] at h; simp [sizeOf, typeInfo, hq, h]
theorem u5_ : Try.prog.underlying 5 = some (.int .u8) := by kernel_rfl
@[go_sem ↓ high] theorem store_bc_any (W : World) (n : Nat) (f : Nat → UInt8) (h : isB W n) : (storeCells ⟨n, 0, none⟩ (bcells f).toList).run Try.prog W = .ok () (W.setRow n (bcells f)) := by
  obtain ⟨c, t, hc, h32⟩ := h
  have := run_storeVar_row (P := Try.prog) W n t 22 c (bcells f) hc (by rw [bcells_size]; exact i22) (by rw [bcells_size]; exact h32) (bcells_one f)
  have hi := i22
  cases hq : Try.prog.info? 22 with
  | none => simp [hq] at hi
  | some i =>
    have hs : i.size = 32 := by simpa [hq] using hi
    simpa [storeVar, sizeOf, typeInfo, hq, Value.cells, hs] using this
theorem load_bc_any (W : World) (n : Nat) (h : isB W n) : (loadCellsFrom ⟨n, 0, none⟩ 0 32 #[]).run Try.prog W = .ok (rowOf W n) W := by
  obtain ⟨c, t, hc, h32⟩ := h
  have := run_loadCells_list (P := Try.prog) W ⟨n, 0, none⟩ c.toList (fun j v hv => by
    have hadd : (⟨n, 0, none⟩ : Addr).add j = ⟨n, j, none⟩ := by unfold Addr.add; split <;> simp_all
    rw [hadd, cell_of_row _ _ j c t (0, 0) hc]
    simpa using hv)
  have hr : rowOf W n = c := by unfold rowOf; rw [hc]
  rw [hr]
  simpa [loadCells, h32] using this
theorem loadVar_bc (W : World) (n : Nat) (h : isB W n) : (loadVar 22 ⟨n, 0, none⟩).run Try.prog W = .ok (.agg (rowOf W n)) W := by
  obtain ⟨c, t, hc, h32⟩ := h
  have hr : rowOf W n = c := by unfold rowOf; rw [hc]
  rw [hr]
  have hi : (Try.prog.info? 22).map (·.size) = some c.size := by rw [h32]; exact i22
  exact run_loadVar_row W n t 22 c (0, 0) (.array 32 5) hc u22 rfl hi
@[go_sem ↓ high] theorem storeCells_bc (V : World) (c : Array Value) (f : Nat → UInt8) (hc : c.size = 32) : (storeCells ⟨V.heap.size, 0, none⟩ (bcells f).toList).run Try.prog (V.alloc (.cells c 22)) = .ok () (V.alloc (.cells (bcells f) 22)) :=
  run_storeCells_new V _ c (bcells f) (by rw [bcells_size]; exact i22) (by rw [bcells_size]; exact hc) (bcells_one f)
@[go_sem ↓ high] theorem loadCells_bc (V : World) (f : Nat → UInt8) : (loadCellsFrom ⟨V.heap.size, 0, none⟩ 0 32 #[]).run Try.prog (V.alloc (.cells (bcells f) 22)) = .ok (bcells f) (V.alloc (.cells (bcells f) 22)) :=
  run_loadCellsFrom_new V _ (bcells f) 32 (bcells_size f)
@[go_sem ↓ high] theorem eql_bc (f g : Nat → UInt8) (w : World) : (binOp .eql 22 (.agg (bcells f)) (.agg (bcells g))).run Try.prog w = .ok (.bool (beqb f g)) w := by
  rw [bcells_list, bcells_list]
  exact run_eql_bytes w _ _ 32 u22 u5_ s5_ _ _ (blist_len f) (blist_len g)
@[go_sem ↓ high] theorem neq_bc (f g : Nat → UInt8) (w : World) : (binOp .neq 22 (.agg (bcells f)) (.agg (bcells g))).run Try.prog w = .ok (.bool (!beqb f g)) w := by
  rw [run_neq_struct, bcells_list, bcells_list, run_equalIn_bytes w 9998 _ _ 32 u22 u5_ s5_ _ _ (blist_len f) (blist_len g)]
  rfl
end Go.Proofs.Ytndohjgfjbopnaa
