/-
  The document's answer: a times b, and c.
-/
import Derived.Test.YtndohjgfjbopnaaRO
import Derived.Test.YtndohjgfjbopnaaPS
set_option linter.unusedSimpArgs false
set_option linter.unusedVariables false
namespace Go.Proofs.Ytndohjgfjbopnaa
open Go.RowKit Go.Cv Go.Cv.Dig
theorem product_num (w : World) (v1 v2 : Value) (x y : Nat) (h1 : Num w v1 x 11) (h2 : Num w v2 y 11) :
    Calls Try.prog 81 #[v1, v2] w fun e w' => ∃ v, e = .returned v ∧ Num w' v (x * y) 22 ∧ Ext w w' := by
  obtain ⟨A, n, c, l, rfl, hn, hc, hr, hcan, rfl, hl⟩ := h1
  obtain ⟨B, n2, c2, l2, rfl, hn2, hc2, hr2, hcan2, rfl, hl2⟩ := h2
  refine (product_any A B n n2 c c2 l l2 w hn hn2 hcan.1 hcan2.1 hr hr2 (by omega)).mono ?_
  rintro e w' ⟨v, rfl, hv, hx⟩
  exact ⟨v, rfl, hv.mono (by omega), hx⟩
theorem plus_big (w : World) (v1 v2 : Value) (x y : Nat) (h1 : Num w v1 x 22) (h2 : Num w v2 y 11) :
    Calls Try.prog 65 #[v1, v2] w fun e w' => ∃ v, e = .returned v ∧ Num w' v (x + y) 1000 ∧ Ext w w' := by
  obtain ⟨A, n, c, l, rfl, hn, hc, hr, hcan, rfl, hl⟩ := h1
  obtain ⟨B, n2, c2, l2, rfl, hn2, hc2, hr2, hcan2, rfl, hl2⟩ := h2
  refine (plus_any A B n n2 c c2 l l2 w hn hn2 hcan hcan2 hr hr2 (by omega) (by omega)).mono ?_
  rintro e w' ⟨v, rfl, hv, hx⟩
  exact ⟨v, rfl, hv.mono (by omega), hx⟩
set_option maxRecDepth 20000 in
set_option maxHeartbeats 4000000 in
theorem rmuladd_any (f g h : Nat → UInt8) (w : World) :
    Calls Try.prog 39 #[.agg (bcells f), .agg (bcells g), .agg (bcells h)] w fun e w' => e = .returned (.agg (bcells (nb ((V f * V g + V h) % ordN)))) ∧ Ext w w' := by
  obtain ⟨R, hR⟩ : ∃ R, R = (V f * V g + V h) % ordN := ⟨_, rfl⟩
  rw [← hR]
  replace hR := Lib.hid hR
  have hRe := rrest_any (L := ordN) (hL := rfl)
  generalize ordN = L at *
  go_enter Try.func39, Try.ntmps39
  go_upto_region 1 with fail
  obtain ⟨W1, hW1⟩ : ∃ W1, W1 = w.alloc (.cells (bcells f) 22) := ⟨_, rfl⟩
  obtain ⟨W2, hW2⟩ : ∃ W2, W2 = W1.alloc (.cells (bcells g) 22) := ⟨_, rfl⟩
  obtain ⟨W3, hW3⟩ : ∃ W3, W3 = W2.alloc (.cells (bcells h) 22) := ⟨_, rfl⟩
  obtain ⟨W0, hW0⟩ : ∃ W0, W0 = W3.alloc (.cells (bcells fun _ => 0) 22) := ⟨_, rfl⟩
  rw [← hW1, ← hW2, ← hW3, ← hW0]
  have s1 : W1.heap.size = w.heap.size + 1 := by rw [hW1]; exact Array.size_push _
  have s2 : W2.heap.size = w.heap.size + 1 + 1 := by rw [hW2, ← s1]; exact Array.size_push _
  have s3 : W3.heap.size = w.heap.size + 1 + 1 + 1 := by rw [hW3, ← s2]; exact Array.size_push _
  have x1 : Ext w W1 := by rw [hW1]; exact ext_alloc _ _
  have x2 : Ext W1 W2 := by rw [hW2]; exact ext_alloc _ _
  have x3 : Ext W2 W3 := by rw [hW3]; exact ext_alloc _ _
  have x4 : Ext W3 W0 := by rw [hW0]; exact ext_alloc _ _
  have Rf : RV W0 w.heap.size 22 (fun u => u = .agg (bcells f)) := by
    refine (RV.ext ?_ x2 |>.ext x3).ext x4; rw [hW1]; exact RV.newB _ _ _
  have Rg : RV W0 (w.heap.size + 1) 22 (fun u => u = .agg (bcells g)) := by
    refine (RV.ext ?_ x3).ext x4; rw [hW2, ← s1]; exact RV.newB _ _ _
  have Rh : RV W0 (w.heap.size + 1 + 1) 22 (fun u => u = .agg (bcells h)) := by
    refine RV.ext ?_ x4; rw [hW3, ← s2]; exact RV.newB _ _ _
  have Rr : RV W0 (w.heap.size + 1 + 1 + 1) 22 (fun u => u = .agg (bcells fun _ => 0)) := by
    rw [hW0, ← s3]; exact RV.newB _ _ _
  obtain ⟨b1, hb1⟩ : ∃ b, b = w.heap.size := ⟨_, rfl⟩
  obtain ⟨b2, hb2⟩ : ∃ b, b = w.heap.size + 1 := ⟨_, rfl⟩
  obtain ⟨b3, hb3⟩ : ∃ b, b = w.heap.size + 1 + 1 := ⟨_, rfl⟩
  obtain ⟨b4, hb4⟩ : ∃ b, b = w.heap.size + 1 + 1 + 1 := ⟨_, rfl⟩
  have hbw : w.heap.size ≤ b4 := by omega
  rw [← hb4, ← hb3, ← hb2, ← hb1]
  rw [← hb1] at Rf
  rw [← hb2] at Rg
  rw [← hb3] at Rh
  rw [← hb4] at Rr
  have hx0 : Ext w W0 := x1.trans (x2.trans (x3.trans x4))
  clear hb1 hb2 hb3 hb4 s1 s2 s3 x1 x2 x3 x4 hW1 hW2 hW3 hW0
  have Rf' : RV W0.drew b1 22 (fun u => u = .agg (bcells f)) := Rf
  have Rg' : RV W0.drew b2 22 (fun u => u = .agg (bcells g)) := Rg
  go_region_law (first
    | (go_simp; go_at_call 37; (with_reducible refine (of_num b1 f W0.drew Rf').mono ?_); rintro e w1 ⟨v1, rfl, hv1, hx1⟩)
    | (go_simp; go_at_call 37; (with_reducible refine (of_num b2 g w1 (Rg'.ext hx1)).mono ?_); rintro e w2 ⟨v2, rfl, hv2, hx2⟩; replace hv1 := hv1.ext hx2; replace hx2 := hx1.trans hx2)
    | (go_simp; go_at_call 37; (with_reducible refine (of_num b2 g W0.drew Rg').mono ?_); rintro e w1 ⟨v2, rfl, hv2, hx1⟩)
    | (go_simp; go_at_call 37; (with_reducible refine (of_num b1 f w1 (Rf'.ext hx1)).mono ?_); rintro e w2 ⟨v1, rfl, hv1, hx2⟩; replace hv2 := hv2.ext hx2; replace hx2 := hx1.trans hx2)
    | (go_simp; go_at_call 81; (with_reducible refine (product_num _ v1 v2 _ _ hv1 hv2).mono ?_); rintro e w3 ⟨v3, rfl, hv3, hx3⟩))
  all_goals
    have hx03 : Ext W0 w3 := (ext_drew W0).trans (hx2.trans hx3)
    have Rh3 := Rh.ext hx03
    have Rr3 := Rr.ext hx03
    clear hx1 hx2 hx3 Rf Rg Rf' Rg' Rh Rr hv1 hv2
    simp only [List.getElem_toArray, List.getElem_cons_zero, List.getElem_cons_succ, Act.put, List.setIfInBounds_toArray, List.set_cons_zero, List.set_cons_succ]
    go_wp2_with (first
      | (go_at_call 37; ((with_reducible refine (of_num b3 h w3 Rh3).mono ?_); rintro e w4 ⟨v4, rfl, hv4, hx4⟩; have hv34 := hv3.ext hx4))
      | (go_at_call 65; ((with_reducible refine (plus_big _ _ _ _ _ hv34 hv4).mono ?_); rintro e w5 ⟨v5, rfl, hv5, hx5⟩))
      | (go_at_call 41; ((with_reducible refine (hRe _ _ _ hv5).mono ?_); rintro e w6 ⟨v6, rfl, hv6, hx6⟩; rw [← hR.out] at hv6))
      | (go_at_call 17; ((with_reducible refine (bytes_num _ _ _ hv6).mono ?_); rintro e w7 ⟨rfl, hx7⟩; have hxx := hx4.trans (hx5.trans (hx6.trans hx7)); have Rr7 := Rr3.ext hxx; have o7 := Rr7.opt)))
    obtain ⟨cr, hr1, hr2⟩ := Rr7
    exact bodyPost_ret (results_cell_row (p := 6) (ty := 22) rfl _ _ b4 22 _ (0, 0) _ rfl (setRow_heap w7 b4 _ _ 22 (0, 0) hr1) Go.Proofs.Ytndohjgfjbopnaa.u22 rfl (by rw [bcells_size]; exact i22)) rfl ⟨rfl, Ext.keep_ (ns := [b4]) (hx0.trans (hx03.trans hxx)) ⟨rfl, rfl, rfl, by simp [World.setRow], fun k _ hk => setRow_other w7 b4 k _ (by simpa using hk)⟩ (by simpa using hbw)⟩
end Go.Proofs.Ytndohjgfjbopnaa
