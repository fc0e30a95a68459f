/-
  A world with some blocks more and some orders drawn: what lay there lies there.
-/
import Derived.Test.YtnlphndfnnmdaaaDoorLib
import Derived.Laws.NewBlocks
set_option linter.unusedSimpArgs false
set_option linter.unusedVariables false
namespace Go.Cv
open Go.RowKit

/-- Orders drawn, and blocks laid. -/
def grw (w : World) (x : Nat × Array Obj) : World := { w with heap := w.heap ++ x.2, drawn := x.1 }
theorem grw_ext (w : World) (x : Nat × Array Obj) : Ext w (grw w x) := by
  refine ⟨rfl, rfl, rfl, ?_, ?_⟩
  · show w.heap.size ≤ (w.heap ++ x.2).size
    rw [Array.size_append]; omega
  · intro b hb
    show (w.heap ++ x.2)[b]? = w.heap[b]?
    rw [Array.getElem?_append, if_pos hb]
theorem grw_of_ext {w w' : World} (h : Ext w w') : ∃ x, w' = grw w x := by
  refine ⟨(w'.drawn, w'.heap.extract w.heap.size w'.heap.size), ?_⟩
  have h1 := h.os
  have h2 := h.tape
  have h3 := h.output
  have h4 := h.size
  have h5 := h.block
  cases w' with
  | mk heap tape drawn os output =>
    cases w with
    | mk heap0 tape0 drawn0 os0 output0 =>
      simp only at h1 h2 h3 h4 h5
      subst h1 h2 h3
      unfold grw
      simp only [World.mk.injEq, true_and, and_true]
      apply Array.ext_getElem?
      intro i
      rw [Array.getElem?_append]
      split
      · rename_i hi
        exact h5 i hi
      · rename_i hi
        rw [Array.getElem?_extract]
        split
        · congr 1; omega
        · rename_i hj
          rw [Array.getElem?_eq_none (by omega)]
@[go_sem] theorem grw_grw (w : World) (x y : Nat × Array Obj) : grw (grw w x) y = grw w (y.1, x.2 ++ y.2) := by
  unfold grw
  simp only [World.mk.injEq, true_and, and_true]
  exact Array.append_assoc ..
theorem grw_size (w : World) (x : Nat × Array Obj) : w.heap.size ≤ (grw w x).heap.size := (grw_ext w x).size
theorem grw_lt {w : World} {n : Nat} (x : Nat × Array Obj) (h : n < w.heap.size) : n < (grw w x).heap.size := Nat.lt_of_lt_of_le h (grw_size w x)
@[go_sem] theorem grw_lt_true {w : World} {n : Nat} (x : Nat × Array Obj) (h : n < w.heap.size) : (n < (grw w x).heap.size) = True := eq_true (grw_lt x h)
@[go_sem] theorem grw_cell (x : Nat × Array Obj) (w : World) (n i : Nat) (hn : n < w.heap.size) : (grw w x).cell? ⟨n, i, none⟩ = w.cell? ⟨n, i, none⟩ := by
  unfold World.cell?
  have h := (grw_ext w x).block n hn
  simp only [h]
@[go_sem] theorem grw_frozen (x : Nat × Array Obj) (w : World) (n i : Nat) (hn : n < w.heap.size) : (grw w x).frozen? ⟨n, i, none⟩ = w.frozen? ⟨n, i, none⟩ := by
  unfold World.frozen?
  have h := (grw_ext w x).block n hn
  simp only [h]
@[go_sem] theorem grw_setCell (x : Nat × Array Obj) (w : World) (n i : Nat) (v : Value) (hn : n < w.heap.size) : (grw w x).setCell ⟨n, i, none⟩ v = grw (w.setCell ⟨n, i, none⟩ v) x := by
  unfold World.setCell grw
  simp only [World.mk.injEq, true_and, and_true]
  apply Array.ext_getElem?
  intro k
  simp only [Array.getElem?_modify, Array.getElem?_append, Array.size_modify]
  by_cases hk : k = n
  · subst hk
    simp [hn]
  · have : ¬ n = k := fun h => hk h.symm
    simp [this]
theorem grw_self (w : World) : w = grw w (w.drawn, #[]) := by unfold grw; simp
theorem setRow_grw (x : Nat × Array Obj) (w : World) (n : Nat) (c : Array Value) (hn : n < w.heap.size) : (grw w x).setRow n c = grw (w.setRow n c) x := by
  unfold World.setRow grw
  simp only [World.mk.injEq, true_and, and_true]
  apply Array.ext_getElem?
  intro k
  simp only [Array.getElem?_modify, Array.getElem?_append, Array.size_modify]
  by_cases hk : k = n
  · subst hk
    simp [hn]
  · have : ¬ n = k := fun h => hk h.symm
    simp [this]
@[go_sem] theorem grw_drew (w : World) (x : Nat × Array Obj) : (grw w x).drew = grw w (x.1 + 1, x.2) := rfl
theorem Ext.size_ {w w' : World} (h : Ext w w') : w.heap.size ≤ w'.heap.size := Below.size h
theorem grw_cell_ge {w w2 : World} {x : Nat × Array Obj} {n i : Nat} {v : Value} (hs : w2.heap.size = w.heap.size) (hn : w.heap.size ≤ n) (h : (grw w x).cell? ⟨n, i, none⟩ = some v) (z : Nat) (o : Array Obj) :
    (grw w2 (z, x.2 ++ o)).cell? ⟨n, i, none⟩ = some v := by
  have hb : (w2.heap ++ (x.2 ++ o))[n]? = (w.heap ++ x.2)[n]? := by
    have hlt : n < (w.heap ++ x.2).size := World.block_lt_of_cell? (grw w x) _ h
    rw [Array.size_append] at hlt
    rw [Array.getElem?_append, if_neg (by omega), Array.getElem?_append, if_pos (by omega), Array.getElem?_append, if_neg (by omega), hs]
  unfold World.cell? grw at *
  simp only at *
  rw [hb]
  exact h
attribute [go_sem] Array.append_assoc
@[go_sem] theorem drew_size_ (w : World) : w.drew.heap.size = w.heap.size := rfl
theorem drew_grw (w : World) (x : Nat × Array Obj) : ∃ y, (grw w x).drew = grw w y := grw_of_ext (by have := (grw_ext w x).drewN 1; exact this)
theorem drewN_grw (w : World) : ∀ n, ∃ y, w.drewN n = grw w y := fun n => grw_of_ext ((Ext.refl w).drewN n)
end Go.Cv
