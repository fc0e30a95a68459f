/-
  The hasher's Sum, and the head of all statements of layer 5.
-/
import Derived.Test.YtnlphndfnnmdaaaDoorHashH
set_option linter.unusedSimpArgs false
set_option linter.unusedVariables false
namespace Go.Proofs.YtnlphndfnnmdaaaDoor
open Go.RowKit Go.Cv Go.Cv.Hash Go.Cv.Dig
/-- Bytes that came back in a slice. -/
def Out (w : World) (v : Value) (l : List UInt8) : Prop := ∃ A n c, v = .slice A n c ∧ l.length = n ∧ n ≤ c ∧ Rd w A (l.map bv)
theorem Out.ext {w w' : World} {v : Value} {l : List UInt8} (h : Out w v l) (hx : Ext w w') : Out w' v l := by
  obtain ⟨A, n, c, e, hl, hc, hr⟩ := h
  exact ⟨A, n, c, e, hl, hc, hr.ext hx⟩
theorem all32 (l : List UInt8) : ((l.map bv).toArray).all (·.oneCell') = true := Array.all_eq_true_iff_forall_mem.2 (fun v hv => one_map_bv l v (by simpa using hv))
theorem made_row32 (w : World) (l : List UInt8) (h : l.length = 32) : Row ((w.alloc (.cells ((List.replicate 32 (0 : UInt8)).map bv).toArray 24)).setRow w.heap.size (l.map bv).toArray) w.heap.size 24 (l.map bv) := by
  unfold Row
  exact setRow_heap _ _ _ _ _ _ (Row.alloc w ((List.replicate 32 (0 : UInt8)).map bv) 24)
theorem made_ext32 (w : World) (l : List UInt8) : Ext w ((w.alloc (.cells ((List.replicate 32 (0 : UInt8)).map bv).toArray 24)).setRow w.heap.size (l.map bv).toArray) :=
  below_setRow (ext_alloc w _) (Nat.le_refl _) _
theorem all64 (l : List UInt8) : ((l.map bv).toArray).all (·.oneCell') = true := Array.all_eq_true_iff_forall_mem.2 (fun v hv => one_map_bv l v (by simpa using hv))
theorem made_row64 (w : World) (l : List UInt8) (h : l.length = 64) : Row ((w.alloc (.cells ((List.replicate 64 (0 : UInt8)).map bv).toArray 26)).setRow w.heap.size (l.map bv).toArray) w.heap.size 26 (l.map bv) := by
  unfold Row
  exact setRow_heap _ _ _ _ _ _ (Row.alloc w ((List.replicate 64 (0 : UInt8)).map bv) 26)
theorem made_ext64 (w : World) (l : List UInt8) : Ext w ((w.alloc (.cells ((List.replicate 64 (0 : UInt8)).map bv).toArray 26)).setRow w.heap.size (l.map bv).toArray) :=
  below_setRow (ext_alloc w _) (Nat.le_refl _) _
/-- A digest stored into fresh cells. -/
theorem store_fresh32 {ops : Array Oper} {rest : List Oper} {o : Oper} {a : Act} {w : World} {Q : Exit → Act → World → Prop} (hgd : o.guard = none) (x y : Operand) (ho : o.op = .store 24 x y)
    (l : List UInt8) (hl : l.length = 32) (hx : a.eval x = .pointer (some ⟨w.heap.size, 0, none⟩)) (hy : a.eval y = .agg (l.map bv).toArray)
    (h : ∀ w2, Row w2 w.heap.size 24 (l.map bv) → Ext w w2 → wpList Tryd.prog ops Q rest (a.put o.dst undef) w2) :
    wpList Tryd.prog ops Q (o :: rest) a (w.alloc (.cells #[.int .u8 0, .int .u8 0, .int .u8 0, .int .u8 0, .int .u8 0, .int .u8 0, .int .u8 0, .int .u8 0, .int .u8 0, .int .u8 0, .int .u8 0, .int .u8 0, .int .u8 0, .int .u8 0, .int .u8 0, .int .u8 0, .int .u8 0, .int .u8 0, .int .u8 0, .int .u8 0, .int .u8 0, .int .u8 0, .int .u8 0, .int .u8 0, .int .u8 0, .int .u8 0, .int .u8 0, .int .u8 0, .int .u8 0, .int .u8 0, .int .u8 0, .int .u8 0] 24)) := by
  have hs1 : ((l.map bv).toArray).size = 32 := by simp [hl]
  have hs2 : (((List.replicate 32 (0 : UInt8)).map bv).toArray).size = 32 := by simp
  refine wpList_store_row hgd _ x y ho w.heap.size _ hx hy 24 _ (Row.alloc w ((List.replicate 32 (0 : UInt8)).map bv) 24) (by rw [hs1]; exact info32) (by rw [hs2, hs1]) (all32 l) ?_
  exact h _ (made_row32 w l hl) (made_ext32 w l)
set_option maxRecDepth 20000 in
set_option maxHeartbeats 4000000 in
theorem sumn_any (B b : Nat) (l : List UInt8) (w : World) (h : Hs w B b false l) (hbd : l.length ≤ 5000000) (hT : Tabs w) :
    Calls Tryd.prog 14 #[.pointer (some ⟨b, 0, none⟩)] w fun e w' => ∃ m, e = .returned (.slice (some ⟨m, 0, none⟩) 32 32) ∧ Row w' m 24 ((hash32 l).map bv) ∧ Ext w w' := by
  obtain ⟨hB, v, hbk, ho⟩ := h
  obtain ⟨C, cc, rfl, hnc, hcm, hrd, -⟩ := own_form ho
  have c0 : w.cell? ⟨b, 0, none⟩ = some (.bool false) := by rw [Lib.cell_of_heap hbk]; rfl
  have c1 : w.cell? ⟨b, 1, none⟩ = some (.slice C l.length cc) := by rw [Lib.cell_of_heap hbk]; rfl
  have hs := sum256_any C l.length cc l w rfl hnc hrd hbd hT.1
  have hlen := outAt_len32 l
  generalize hash32 l = d at *
  generalize l.length = q at *
  have hs1 : ((d.map bv).toArray).size = 32 := by simp [hlen]
  have hs2 : (((List.replicate 32 (0 : UInt8)).map bv).toArray).size = 32 := by simp
  have hall := all32 d
  go_enter Tryd.func14, Tryd.ntmps14
  go_wp2_with (first
    | (go_at_call 7; with_reducible refine hs.mono ?_; rintro e w1 ⟨rfl, hx1⟩)
    | (refine store_fresh32 rfl (.tmp 4) (.tmp 19) rfl d hlen rfl rfl ?_; intro w2 hrow hx2))
  go_ret
  exact ⟨_, rfl, hrow, hx1.trans hx2⟩
/-- A digest stored into fresh cells. -/
theorem store_fresh64 {ops : Array Oper} {rest : List Oper} {o : Oper} {a : Act} {w : World} {Q : Exit → Act → World → Prop} (hgd : o.guard = none) (x y : Operand) (ho : o.op = .store 26 x y)
    (l : List UInt8) (hl : l.length = 64) (hx : a.eval x = .pointer (some ⟨w.heap.size, 0, none⟩)) (hy : a.eval y = .agg (l.map bv).toArray)
    (h : ∀ w2, Row w2 w.heap.size 26 (l.map bv) → Ext w w2 → wpList Tryd.prog ops Q rest (a.put o.dst undef) w2) :
    wpList Tryd.prog ops Q (o :: rest) a (w.alloc (.cells #[.int .u8 0, .int .u8 0, .int .u8 0, .int .u8 0, .int .u8 0, .int .u8 0, .int .u8 0, .int .u8 0, .int .u8 0, .int .u8 0, .int .u8 0, .int .u8 0, .int .u8 0, .int .u8 0, .int .u8 0, .int .u8 0, .int .u8 0, .int .u8 0, .int .u8 0, .int .u8 0, .int .u8 0, .int .u8 0, .int .u8 0, .int .u8 0, .int .u8 0, .int .u8 0, .int .u8 0, .int .u8 0, .int .u8 0, .int .u8 0, .int .u8 0, .int .u8 0, .int .u8 0, .int .u8 0, .int .u8 0, .int .u8 0, .int .u8 0, .int .u8 0, .int .u8 0, .int .u8 0, .int .u8 0, .int .u8 0, .int .u8 0, .int .u8 0, .int .u8 0, .int .u8 0, .int .u8 0, .int .u8 0, .int .u8 0, .int .u8 0, .int .u8 0, .int .u8 0, .int .u8 0, .int .u8 0, .int .u8 0, .int .u8 0, .int .u8 0, .int .u8 0, .int .u8 0, .int .u8 0, .int .u8 0, .int .u8 0, .int .u8 0, .int .u8 0] 26)) := by
  have hs1 : ((l.map bv).toArray).size = 64 := by simp [hl]
  have hs2 : (((List.replicate 64 (0 : UInt8)).map bv).toArray).size = 64 := by simp
  refine wpList_store_row hgd _ x y ho w.heap.size _ hx hy 26 _ (Row.alloc w ((List.replicate 64 (0 : UInt8)).map bv) 26) (by rw [hs1]; exact info64) (by rw [hs2, hs1]) (all64 l) ?_
  exact h _ (made_row64 w l hl) (made_ext64 w l)
set_option maxRecDepth 20000 in
set_option maxHeartbeats 4000000 in
theorem sumw_any (B b : Nat) (l : List UInt8) (w : World) (h : Hs w B b true l) (hbd : l.length ≤ 5000000) (hT : Tabs w) :
    Calls Tryd.prog 14 #[.pointer (some ⟨b, 0, none⟩)] w fun e w' => ∃ m, e = .returned (.slice (some ⟨m, 0, none⟩) 64 64) ∧ Row w' m 26 ((hash64 l).map bv) ∧ Ext w w' := by
  obtain ⟨hB, v, hbk, ho⟩ := h
  obtain ⟨C, cc, rfl, hnc, hcm, hrd, -⟩ := own_form ho
  have c0 : w.cell? ⟨b, 0, none⟩ = some (.bool true) := by rw [Lib.cell_of_heap hbk]; rfl
  have c1 : w.cell? ⟨b, 1, none⟩ = some (.slice C l.length cc) := by rw [Lib.cell_of_heap hbk]; rfl
  have hs := sum512_any C l.length cc l w rfl hnc hrd hbd hT.2
  have hlen := outAt_len64 l
  generalize hash64 l = d at *
  generalize l.length = q at *
  have hs1 : ((d.map bv).toArray).size = 64 := by simp [hlen]
  have hs2 : (((List.replicate 64 (0 : UInt8)).map bv).toArray).size = 64 := by simp
  have hall := all64 d
  go_enter Tryd.func14, Tryd.ntmps14
  go_wp2_with (first
    | (go_at_call 8; with_reducible refine hs.mono ?_; rintro e w1 ⟨rfl, hx1⟩)
    | (refine store_fresh64 rfl (.tmp 3) (.tmp 13) rfl d hlen rfl rfl ?_; intro w2 hrow hx2))
  go_ret
  exact ⟨_, rfl, hrow, hx1.trans hx2⟩
theorem row_byte {N : Nat} {w : World} {b : Nat} {T : TypeId} {l : List UInt8} (h : Row w b T (l.map bv)) (hl : l.length = N) (k : Nat) (hk : k < N) : w.cell? ⟨b, k, none⟩ = some (bv (l.getD k 0)) := by
  rw [h.cell (by rw [List.length_map]; omega), List.getElem_map]
  simp [List.getD, List.getElem?_eq_getElem (show k < l.length by omega)]
set_option maxRecDepth 20000 in
set_option maxHeartbeats 8000000 in
theorem shown_any (w : World) (hT : Tabs w) :
    Calls Tryd.prog 6 #[] w fun e w' => e = .returned (.bool true) ∧ Ext w w' := by
  have h1 := sum256_any none 0 0 [] w rfl (Nat.le_refl _) Rd.nil_ (by decide) hT.1
  have hl1 := outAt_len32 []
  obtain ⟨x1, x2⟩ := ex32
  have h2 := fun (w : World) hr hT => sum512_any (some ⟨w.heap.size, 0, none⟩) 3 3 [97, 98, 99] (w.alloc (.cells #[.int .u8 97, .int .u8 98, .int .u8 99] 5)) rfl (Nat.le_refl _) hr (by decide) hT
  have hl2 := outAt_len64 [97, 98, 99]
  obtain ⟨x3, x4⟩ := ex64
  have hrr := fun w : World => rdl64 w [.int .u8 97, .int .u8 98, .int .u8 99] 5
  generalize hash32 [] = d1 at *
  generalize hash64 [97, 98, 99] = d2 at *
  go_enter Tryd.func6, Tryd.ntmps6
  go_wp2_with (first
    | (go_at_call 7; with_reducible refine h1.mono ?_; rintro e w1 ⟨rfl, hx1⟩)
    | (refine store_fresh32 rfl (.tmp 1) (.tmp 3) rfl d1 hl1 rfl rfl ?_; intro w2 hrow hx2; have hT2 := (hT.ext (hx1.trans hx2)).2)
    | (go_at_call 8; refine (h2 w2 (hrr w2) (hT2.ext (ext_alloc _ _))).mono ?_; rintro e w3 ⟨rfl, hx3⟩)
    | (refine store_fresh64 rfl (.tmp 2) (.tmp 5) rfl d2 hl2 rfl rfl ?_; intro w4 hrow2 hx4; have hrow1 := hrow.ext (((ext_alloc _ _).trans hx3).trans hx4); have y1 := row_byte hrow1 hl1 0 (by decide); have y2 := row_byte hrow1 hl1 31 (by decide); have y3 := row_byte hrow2 hl2 0 (by decide); have y4 := row_byte hrow2 hl2 63 (by decide); rw [x1] at y1; rw [x2] at y2; rw [x3] at y3; rw [x4] at y4))
  go_ret
  exact ⟨rfl, hx1.trans (hx2.trans (((ext_alloc _ _).trans hx3).trans hx4))⟩
end Go.Proofs.YtnlphndfnnmdaaaDoor
