/-
  The curve's points: their bytes.
-/
import Derived.Test.YtndohjgfjbopnaaCrvF
set_option linter.unusedSimpArgs false
set_option linter.unusedVariables false
namespace Go.Cv
open Go.RowKit Go.Cv.Pr Go.Cv.Grp
theorem RV.byte {w : World} {n : Nat} {T : TypeId} {F : Nat → UInt8} (h : RV w n T (fun u => u = .agg (bcells F))) {i : Nat} (hi : i < 32) : w.cell? ⟨n, i, none⟩ = some (.int .u8 (n8 (F i))) := by
  obtain ⟨cs, h1, h2⟩ := h
  have h3 := bL_of h2
  subst h3
  rw [h1.cell (by simpa using hi)]
  have := bcells_get F hi
  rw [Array.getElem?_eq_getElem (by simpa using hi)] at this
  simpa using this
theorem RV.fro {w : World} {n : Nat} {T : TypeId} {φ : Value → Prop} (h : RV w n T φ) (i : Nat) : w.frozen? ⟨n, i, none⟩ = false := by
  obtain ⟨cs, h1, h2⟩ := h
  exact h1.fro i
theorem RV.set {w : World} {n : Nat} {T : TypeId} {F : Nat → UInt8} (h : RV w n T (fun u => u = .agg (bcells F))) (i : Nat) (v : UInt8) : RV (w.setCell ⟨n, i, none⟩ (.int .u8 (n8 v))) n T (fun u => u = .agg (bcells (updb F i v))) := by
  obtain ⟨cs, h1, h2⟩ := h
  have h3 := bL_of h2
  subst h3
  refine ⟨_, h1.set i _, ?_⟩
  rw [← bcells_set]
  congr 1
  apply Array.ext'
  simp
/-- A point's 32 bytes. -/
def encF (x y : F7) : Nat → UInt8 := updb (fb y) 31 (fb y 31 ||| fb x 0 <<< 7)
end Go.Cv
namespace Go.Proofs.Ytndohjgfjbopnaa
open Go.RowKit Go.Cv Go.Cv.Pr Go.Cv.Grp
theorem results_B2 {fn : Func} {p u : Tmp} (h : fn.results = #[.cell p 22, .tmp u]) (tmps : Array Value) {W : World} {n : Nat} {f : Nat → UInt8} (hR : RV W n 22 (fun u => u = .agg (bcells f)))
    (hp : tmps.getD p undef = .pointer (some ⟨n, 0, none⟩)) : (results fn tmps).run Try.prog W = .ok (.tuple #[.agg (bcells f), tmps.getD u undef]) W := by
  obtain ⟨cs, h1, h2⟩ := hR
  have hl := run_loadVar_row W n _ 22 cs.toArray (0, 0) _ h1 u22 rfl (by rw [List.size_toArray, bL_of h2]; simpa using i22)
  rw [results_cell_tmp h, hp]
  simp only [asAddr, Sem.run_pure, Result.andThen_ok, hl]
  rw [show Value.agg (List.toArray cs) = Value.agg (bcells f) from h2]
def plan_54_0 : List Plan := [⟨[], []⟩, ⟨[], []⟩, ⟨[], []⟩]
def plan_54_3 : List Plan := [⟨[], []⟩, ⟨[0], [(11, 0)]⟩, ⟨[0, 1], [(12, 1)]⟩, ⟨[], []⟩, ⟨[3], [(14, 3)]⟩, ⟨[0, 1, 2, 3, 4], [(15, 4)]⟩, ⟨[], []⟩, ⟨[], []⟩, ⟨[0, 1, 2, 3, 4, 5, 6, 7], [(13, 2), (4, 6)]⟩, ⟨[0, 1, 2, 3, 4, 5, 6, 7, 8], [(16, 5), (5, 7)]⟩]
def plan_54_5 : List Plan := [⟨[], []⟩, ⟨[0], [(24, 0)]⟩, ⟨[0, 1], []⟩]
def plan_54_2 : List Plan := [⟨[], []⟩, ⟨[], []⟩, ⟨[0], [(9, 0)]⟩, ⟨[0, 1, 2], [(10, 1)]⟩]
set_option maxRecDepth 20000 in
set_option maxHeartbeats 8000000 in
theorem enc_on {f g : Nat → UInt8} (h : C7.on (tf (V f)) (tf (V g))) (w : World) :
    Calls Try.prog 54 #[.agg (pc f g)] w fun e w' => e = .returned (.tuple #[.agg (bcells (encF (tf (V f)) (tf (V g)))), .nilIface]) ∧ Ext w w' := by
  go_enter Try.func54, Try.ntmps54
  have hx : Ext w w := Ext.refl w
  go_upto_region 0 with fail
  have hok : TrsOk [] w.heap.size ([⟨some 0, 0, 43, none, fun cs => (Value.agg (List.toArray cs)) = .agg (pc (f) (g)), fun _ => True⟩, ⟨some 1, 0, 22, none, fun cs => cs.length = 32, fun _ => True⟩] : List Trk) := ⟨by simp, by simp, by simp, by simp⟩
  refine wp_region_text (Inv [] (fun j u => match j with | 2 => u = .nilIface | _ => True) [⟨some 0, 0, 43, none, fun cs => (Value.agg (List.toArray cs)) = .agg (pc (f) (g)), fun _ => True⟩, ⟨some 1, 0, 22, none, fun cs => cs.length = 32, fun _ => True⟩] w) plan_54_0 [(1, 0), (2, 1), (3, 2)] 25 rfl (by kernel_rfl) (Inv.start0 hok (by simp)) ⟨?_, ?_, ?_, trivial⟩ ?_
  · intro L v w hL hD hC hI
    refine ⟨fun _ => ?_, fun hw => by cases hw⟩
    refine hI.alloc_step hok hL ⟨some 0, 0, 43, none, fun cs => (Value.agg (List.toArray cs)) = .agg (pc (f) (g)), fun _ => True⟩ (by simp) rfl (by simp) (by intro s hs; cases hs) ?_
    rw [show readsOf plan_54_0 0 = [] from rfl]
    exact ⟨trivial, rfl, pcL f g, rfl, by show (Value.agg _ = Value.agg _); rfl⟩
  · intro L v w hL hD hC hI
    refine ⟨fun _ => ?_, fun hw => by cases hw⟩
    refine hI.alloc_step hok hL ⟨some 1, 0, 22, none, fun cs => cs.length = 32, fun _ => True⟩ (by simp) rfl (by simp) (by intro s hs; cases hs) ?_
    rw [show readsOf plan_54_0 1 = [] from rfl]
    go_simp
    first | exact ⟨rfl, _, rfl, by first | rfl | trivial⟩ | exact ⟨trivial, rfl, _, rfl, by first | rfl | trivial⟩ | exact ⟨rfl, (bcells fun _ => 0).toList, by rw [Array.toArray_toList], by simp⟩ | exact ⟨trivial, rfl, (bcells fun _ => 0).toList, by rw [Array.toArray_toList], by simp⟩
  · intro L v w hL hD hC hI
    refine ⟨fun _ => ?_, fun hw => by cases hw⟩
    refine hI.val_step hL (by simp) ?_
    rw [show readsOf plan_54_0 2 = [] from rfl]
    first | exact ⟨rfl, Ext.refl _⟩ | (go_simp; exact ⟨rfl, Ext.refl _⟩)
  intro L v1 W1 hL hI
  obtain ⟨b, cs, hb_b, lo_b, hr, hn, ho⟩ := hI.row_made ⟨some 0, 0, 43, none, fun cs => (Value.agg (List.toArray cs)) = .agg (pc (f) (g)), fun _ => True⟩ (by simp) 0 rfl (hL 0 (by decide))
  have R_b : RV W1 b 43 (fun u => u = .agg (pc (f) (g))) := ⟨cs, hr, ho (by intro s hs; cases hs)⟩
  clear hr hn ho
  obtain ⟨r, cs, hb_r, lo_r, hr, hn, ho⟩ := hI.row_made ⟨some 1, 0, 22, none, fun cs => cs.length = 32, fun _ => True⟩ (by simp) 1 rfl (hL 1 (by decide))
  have R_r : RL W1 r 22 32 := ⟨cs, hr, ho (by intro s hs; cases hs)⟩
  clear hr hn ho
  have ne_b_r : b ≠ r := fun e => hI.apart ⟨some 0, 0, 43, none, fun cs => (Value.agg (List.toArray cs)) = .agg (pc (f) (g)), fun _ => True⟩ (by simp) ⟨some 1, 0, 22, none, fun cs => cs.length = 32, fun _ => True⟩ (by simp) 0 1 rfl rfl (by decide) (hL 0 (by decide)) (hL 1 (by decide)) (by rw [hb_b, hb_r, e])
  have hx' : Ext w W1 := hx.trans hI.keep.to_ext
  have lt_b : b < W1.heap.size := R_b.lt
  have bs_b : w.heap.size ≤ b := Nat.le_trans hx.size lo_b
  have lt_r : r < W1.heap.size := R_r.lt
  have bs_r : w.heap.size ≤ r := Nat.le_trans hx.size lo_r
  have hs_3_0 : (v1 2) = .nilIface := hI.val 2 (hL 2 (by decide))
  clear hx hI hL hok L
  have hx := hx'
  clear hx'
  simp only [putP, Act.put, List.setIfInBounds_toArray, List.set_cons_zero, List.set_cons_succ, hb_b, hb_r, hs_3_0]
  go_upto_region 3 with (first | ((with_reducible refine wpl_P R_b ?_ (.tmp 1) ?_ ?_ ?_); rfl; rfl; rfl) | (go_at_call 29; (with_reducible refine (is_true h _).mono ?_); rintro e wq ⟨rfl, hxq⟩))
  replace R_b := R_b.ext hxq
  replace R_r := R_r.ext hxq
  replace lt_b := Nat.lt_of_lt_of_le lt_b hxq.size
  replace lt_r := Nat.lt_of_lt_of_le lt_r hxq.size
  replace hx := hx.trans hxq
  have hok : TrsOk [] wq.heap.size ([⟨some 6, 0, 22, some 8, fun cs => cs.length = 32, fun cs => (Value.agg (List.toArray cs)) = .agg (bcells (fb (tf (V (f)))))⟩, ⟨some 7, 0, 22, some 9, fun cs => cs.length = 32, fun cs => (Value.agg (List.toArray cs)) = .agg (bcells (fb (tf (V (g)))))⟩] : List Trk) := ⟨by simp, by simp, by simp, by simp⟩
  refine wp_region_plan (Inv [] (fun j u => match j with | 0 => u = .pointer (some ⟨b, 0, none⟩) | 1 => u = .agg (bcells (f)) | 2 => u = .agg (bcells (fb (tf (V (f))))) | 3 => u = .pointer (some ⟨b, 32, none⟩) | 4 => u = .agg (bcells (g)) | 5 => u = .agg (bcells (fb (tf (V (g))))) | _ => True) [⟨some 6, 0, 22, some 8, fun cs => cs.length = 32, fun cs => (Value.agg (List.toArray cs)) = .agg (bcells (fb (tf (V (f)))))⟩, ⟨some 7, 0, 22, some 9, fun cs => cs.length = 32, fun cs => (Value.agg (List.toArray cs)) = .agg (bcells (fb (tf (V (g)))))⟩] wq) plan_54_3 [(11, 0), (12, 1), (13, 2), (14, 3), (15, 4), (16, 5), (4, 6), (5, 7)] 25 (by kernel_rfl) rfl (by kernel_rfl) (Inv.start hok (by simp)) ⟨?_, ?_, ?_, ?_, ?_, ?_, ?_, ?_, ?_, ?_, trivial⟩ ?_
  · intro L v w hL hD hC hI
    refine ⟨fun _ => ?_, fun hw => by cases hw⟩
    refine hI.val_step hL (by simp) ?_
    rw [show readsOf plan_54_3 0 = [] from rfl]
    go_simp
    exact ⟨rfl, Ext.refl _⟩
  · intro L v w hL hD hC hI
    refine ⟨fun _ => ?_, fun hw => by cases hw⟩
    have h0 : (v 0) = .pointer (some ⟨b, 0, none⟩) := hI.val 0 (hD 0 (by decide))
    refine hI.val_step hL (by simp) ?_
    rw [show readsOf plan_54_3 1 = [(11, 0)] from rfl]
    exact ld_Px (R_b.keep hI.keep (by simp)) _ rfl h0 fun u hu => ⟨hu, Ext.refl _⟩
  · intro L v w hL hD hC hI
    refine ⟨fun _ => ?_, fun hw => by cases hw⟩
    have h1 : (v 1) = .agg (bcells (f)) := hI.val 1 (hD 1 (by decide))
    refine hI.val_step hL (by simp) ?_
    rw [show readsOf plan_54_3 2 = [(12, 1)] from rfl]
    refine give_call _ _ _ _ rfl rfl Try.func27 (by kernel_rfl) (by kernel_rfl) ?_
    refine Calls.mono (by have := reduceF (f) w; rwa [← h1] at this) ?_
    rintro e w' ⟨rfl, hx⟩
    exact ⟨_, rfl, rfl, hx⟩
  · intro L v w hL hD hC hI
    refine ⟨fun _ => ?_, fun hw => by cases hw⟩
    refine hI.val_step hL (by simp) ?_
    rw [show readsOf plan_54_3 3 = [] from rfl]
    go_simp
    exact ⟨rfl, Ext.refl _⟩
  · intro L v w hL hD hC hI
    refine ⟨fun _ => ?_, fun hw => by cases hw⟩
    have h3 : (v 3) = .pointer (some ⟨b, 32, none⟩) := hI.val 3 (hD 3 (by decide))
    refine hI.val_step hL (by simp) ?_
    rw [show readsOf plan_54_3 4 = [(14, 3)] from rfl]
    exact ld_Py (R_b.keep hI.keep (by simp)) _ rfl h3 fun u hu => ⟨hu, Ext.refl _⟩
  · intro L v w hL hD hC hI
    refine ⟨fun _ => ?_, fun hw => by cases hw⟩
    have h4 : (v 4) = .agg (bcells (g)) := hI.val 4 (hD 4 (by decide))
    refine hI.val_step hL (by simp) ?_
    rw [show readsOf plan_54_3 5 = [(15, 4)] from rfl]
    refine give_call _ _ _ _ rfl rfl Try.func27 (by kernel_rfl) (by kernel_rfl) ?_
    refine Calls.mono (by have := reduceF (g) w; rwa [← h4] at this) ?_
    rintro e w' ⟨rfl, hx⟩
    exact ⟨_, rfl, rfl, hx⟩
  · intro L v w hL hD hC hI
    refine ⟨fun _ => ?_, fun hw => by cases hw⟩
    refine hI.alloc_step hok hL ⟨some 6, 0, 22, some 8, fun cs => cs.length = 32, fun cs => (Value.agg (List.toArray cs)) = .agg (bcells (fb (tf (V (f)))))⟩ (by simp) rfl (by simp) (by intro s hs; cases hs; exact not_yet hC hL (by decide)) ?_
    rw [show readsOf plan_54_3 6 = [] from rfl]
    go_simp
    first | exact ⟨rfl, _, rfl, by first | rfl | trivial⟩ | exact ⟨trivial, rfl, _, rfl, by first | rfl | trivial⟩ | exact ⟨rfl, (bcells fun _ => 0).toList, by rw [Array.toArray_toList], by simp⟩ | exact ⟨trivial, rfl, (bcells fun _ => 0).toList, by rw [Array.toArray_toList], by simp⟩
  · intro L v w hL hD hC hI
    refine ⟨fun _ => ?_, fun hw => by cases hw⟩
    refine hI.alloc_step hok hL ⟨some 7, 0, 22, some 9, fun cs => cs.length = 32, fun cs => (Value.agg (List.toArray cs)) = .agg (bcells (fb (tf (V (g)))))⟩ (by simp) rfl (by simp) (by intro s hs; cases hs; exact not_yet hC hL (by decide)) ?_
    rw [show readsOf plan_54_3 7 = [] from rfl]
    go_simp
    first | exact ⟨rfl, _, rfl, by first | rfl | trivial⟩ | exact ⟨trivial, rfl, _, rfl, by first | rfl | trivial⟩ | exact ⟨rfl, (bcells fun _ => 0).toList, by rw [Array.toArray_toList], by simp⟩ | exact ⟨trivial, rfl, (bcells fun _ => 0).toList, by rw [Array.toArray_toList], by simp⟩
  · intro L v w hL hD hC hI
    refine ⟨fun _ => ?_, fun hw => by cases hw⟩
    have h2 : (v 2) = .agg (bcells (fb (tf (V (f))))) := hI.val 2 (hD 2 (by decide))
    refine hI.store_step hok hL ⟨some 6, 0, 22, some 8, fun cs => cs.length = 32, fun cs => (Value.agg (List.toArray cs)) = .agg (bcells (fb (tf (V (f)))))⟩ (by simp) rfl (by simp) (by intro k hk; cases hk; exact hD 6 (by decide)) ?_
    intro n cs hb hR hold
    change v 6 = .pointer (some ⟨n, 0, none⟩) at hb
    rw [show readsOf plan_54_3 8 = [(13, 2), (4, 6)] from rfl]
    exact st_B hR hold _ _ rfl hb h2 fun w' cs' hr he hk => ⟨trivial, hk, cs', hr, he⟩
  · intro L v w hL hD hC hI
    refine ⟨fun _ => ?_, fun hw => by cases hw⟩
    have h5 : (v 5) = .agg (bcells (fb (tf (V (g))))) := hI.val 5 (hD 5 (by decide))
    refine hI.store_step hok hL ⟨some 7, 0, 22, some 9, fun cs => cs.length = 32, fun cs => (Value.agg (List.toArray cs)) = .agg (bcells (fb (tf (V (g)))))⟩ (by simp) rfl (by simp) (by intro k hk; cases hk; exact hD 7 (by decide)) ?_
    intro n cs hb hR hold
    change v 7 = .pointer (some ⟨n, 0, none⟩) at hb
    rw [show readsOf plan_54_3 9 = [(16, 5), (5, 7)] from rfl]
    exact st_B hR hold _ _ rfl hb h5 fun w' cs' hr he hk => ⟨trivial, hk, cs', hr, he⟩
  intro L v2 W2 hL hI
  obtain ⟨n4, cs, hb_n4, lo_n4, hr, hn, ho⟩ := hI.row_made ⟨some 6, 0, 22, some 8, fun cs => cs.length = 32, fun cs => (Value.agg (List.toArray cs)) = .agg (bcells (fb (tf (V (f)))))⟩ (by simp) 6 rfl (hL 6 (by decide))
  have R_n4 : RV W2 n4 22 (fun u => u = .agg (bcells (fb (tf (V (f)))))) := ⟨cs, hr, hn 8 rfl (hL 8 (by decide))⟩
  clear hr hn ho
  obtain ⟨n5, cs, hb_n5, lo_n5, hr, hn, ho⟩ := hI.row_made ⟨some 7, 0, 22, some 9, fun cs => cs.length = 32, fun cs => (Value.agg (List.toArray cs)) = .agg (bcells (fb (tf (V (g)))))⟩ (by simp) 7 rfl (hL 7 (by decide))
  have R_n5 : RV W2 n5 22 (fun u => u = .agg (bcells (fb (tf (V (g)))))) := ⟨cs, hr, hn 9 rfl (hL 9 (by decide))⟩
  clear hr hn ho
  replace R_b := R_b.keep hI.keep (by simp)
  replace R_r := R_r.keep hI.keep (by simp)
  have ne_n4_n5 : n4 ≠ n5 := fun e => hI.apart ⟨some 6, 0, 22, some 8, fun cs => cs.length = 32, fun cs => (Value.agg (List.toArray cs)) = .agg (bcells (fb (tf (V (f)))))⟩ (by simp) ⟨some 7, 0, 22, some 9, fun cs => cs.length = 32, fun cs => (Value.agg (List.toArray cs)) = .agg (bcells (fb (tf (V (g)))))⟩ (by simp) 6 7 rfl rfl (by decide) (hL 6 (by decide)) (hL 7 (by decide)) (by rw [hb_n4, hb_n5, e])
  have ne_b_n4 : b ≠ n4 := Nat.ne_of_lt (Nat.lt_of_lt_of_le lt_b lo_n4)
  have ne_r_n4 : r ≠ n4 := Nat.ne_of_lt (Nat.lt_of_lt_of_le lt_r lo_n4)
  have ne_b_n5 : b ≠ n5 := Nat.ne_of_lt (Nat.lt_of_lt_of_le lt_b lo_n5)
  have ne_r_n5 : r ≠ n5 := Nat.ne_of_lt (Nat.lt_of_lt_of_le lt_r lo_n5)
  replace lt_b := Nat.lt_of_lt_of_le lt_b hI.keep.size
  replace lt_r := Nat.lt_of_lt_of_le lt_r hI.keep.size
  have hx' : Ext w W2 := hx.trans hI.keep.to_ext
  have lt_n4 : n4 < W2.heap.size := R_n4.lt
  have bs_n4 : w.heap.size ≤ n4 := Nat.le_trans hx.size lo_n4
  have lt_n5 : n5 < W2.heap.size := R_n5.lt
  have bs_n5 : w.heap.size ≤ n5 := Nat.le_trans hx.size lo_n5
  clear hx hI hL hok L
  have hx := hx'
  clear hx'
  simp only [putP, Act.put, List.setIfInBounds_toArray, List.set_cons_zero, List.set_cons_succ, hb_n4, hb_n5]
  have e1 := R_n5.byte (i := 31) (by decide)
  have e2 := R_n4.byte (i := 0) (by decide)
  have e3 := R_n5.fro 31
  go_upto_region 5 with fail
  obtain ⟨W4, hW4⟩ : ∃ W4, W4 = W2.setCell ⟨n5, 31, none⟩ (.int .u8 (n8 (fb (tf (V g)) 31 ||| fb (tf (V f)) 0 <<< 7))) := ⟨_, rfl⟩
  rw [← hW4]
  have hk : Keep [n5] W2 W4 := by rw [hW4]; exact Keep.setCell _ ⟨n5, 31, none⟩ _
  have R5 := R_n5.set 31 (fb (tf (V g)) 31 ||| fb (tf (V f)) 0 <<< 7)
  rw [← hW4] at R5
  clear R_n5 R_n4 e1 e2 e3
  have R_n5 : RV W4 n5 22 (fun u => u = .agg (bcells (encF (tf (V f)) (tf (V g))))) := R5
  clear R5
  replace R_r := R_r.keep hk (by simp [ne_r_n5, Ne.symm ne_r_n5])
  replace R_b := R_b.keep hk (by simp [ne_b_n5, Ne.symm ne_b_n5])
  replace hx := Ext.keep_ hx hk (by simpa using bs_n5)
  clear hW4
  replace lt_b := Nat.lt_of_lt_of_le lt_b hk.size
  replace lt_r := Nat.lt_of_lt_of_le lt_r hk.size
  replace lt_n4 := Nat.lt_of_lt_of_le lt_n4 hk.size
  replace lt_n5 := Nat.lt_of_lt_of_le lt_n5 hk.size
  have hok : TrsOk [r] W4.heap.size ([⟨none, r, 22, some 1, fun cs => cs.length = 32, fun cs => (Value.agg (List.toArray cs)) = .agg (bcells (encF (tf (V f)) (tf (V g))))⟩] : List Trk) := ⟨by simp [R_r.lt], by simp, by simp, by simp⟩
  refine wp_region_text (Inv [r] (fun j u => match j with | 0 => u = .agg (bcells (encF (tf (V f)) (tf (V g)))) | 2 => u = .nilIface | _ => True) [⟨none, r, 22, some 1, fun cs => cs.length = 32, fun cs => (Value.agg (List.toArray cs)) = .agg (bcells (encF (tf (V f)) (tf (V g))))⟩] W4) plan_54_5 [(24, 0), (3, 2)] 25 rfl (by kernel_rfl) (Inv.start0 hok (by
      simp only [List.forall_mem_cons, List.not_mem_nil, false_implies, implies_true, and_true]
      exact fun _ => R_r)) ⟨?_, ?_, ?_, trivial⟩ ?_
  · intro L v w hL hD hC hI
    refine ⟨fun _ => ?_, fun hw => by cases hw⟩
    refine hI.val_step hL (by simp) ?_
    rw [show readsOf plan_54_5 0 = [] from rfl]
    exact ld_B (R_n5.keep hI.keep (by simp [ne_r_n5, Ne.symm ne_r_n5])) _ rfl rfl fun u hu => ⟨hu, Ext.refl _⟩
  · intro L v w hL hD hC hI
    refine ⟨fun _ => ?_, fun hw => by cases hw⟩
    have h0 : (v 0) = .agg (bcells (encF (tf (V f)) (tf (V g)))) := hI.val 0 (hD 0 (by decide))
    refine hI.store_step hok hL ⟨none, r, 22, some 1, fun cs => cs.length = 32, fun cs => (Value.agg (List.toArray cs)) = .agg (bcells (encF (tf (V f)) (tf (V g))))⟩ (by simp) rfl (by simp) (by intro k hk; cases hk) ?_
    intro n cs hb hR hold
    change n = r at hb
    subst hb
    rw [show readsOf plan_54_5 1 = [(24, 0)] from rfl]
    exact st_B hR hold _ _ rfl rfl h0 fun w' cs' hr he hk => ⟨trivial, hk, cs', hr, he⟩
  · intro L v w hL hD hC hI
    refine ⟨fun _ => ?_, fun hw => by cases hw⟩
    refine hI.val_step hL (by simp) ?_
    rw [show readsOf plan_54_5 2 = [] from rfl]
    first | exact ⟨rfl, Ext.refl _⟩ | (go_simp; exact ⟨rfl, Ext.refl _⟩)
  intro L v3 W3 hL hI
  have N_r : RV W3 r 22 (fun u => u = .agg (bcells (encF (tf (V f)) (tf (V g))))) := hI.row_new ⟨none, r, 22, some 1, fun cs => cs.length = 32, fun cs => (Value.agg (List.toArray cs)) = .agg (bcells (encF (tf (V f)) (tf (V g))))⟩ (by simp) rfl 1 rfl (hL 1 (by decide))
  replace R_b := R_b.keep hI.keep (by simp [ne_b_r, Ne.symm ne_b_r])
  replace R_n5 := R_n5.keep hI.keep (by simp [ne_r_n5, Ne.symm ne_r_n5])
  clear R_r
  have R_r := N_r
  clear N_r
  replace lt_b := Nat.lt_of_lt_of_le lt_b hI.keep.size
  replace lt_r := Nat.lt_of_lt_of_le lt_r hI.keep.size
  replace lt_n4 := Nat.lt_of_lt_of_le lt_n4 hI.keep.size
  replace lt_n5 := Nat.lt_of_lt_of_le lt_n5 hI.keep.size
  have hx' : Ext w W3 := Ext.keep_ hx hI.keep (by simp only [List.forall_mem_cons, List.not_mem_nil, false_implies, implies_true, and_true]; exact bs_r)
  have hs_3_5 : (v3 2) = .nilIface := hI.val 2 (hL 2 (by decide))
  clear hx hI hL hok L
  have hx := hx'
  clear hx'
  simp only [putP, Act.put, List.setIfInBounds_toArray, List.set_cons_zero, List.set_cons_succ, hs_3_5]
  go_wp2
  refine bodyPost_ret (results_B2 rfl _ R_r rfl) rfl ?_
  refine ⟨?_, hx⟩
  rfl
set_option maxRecDepth 20000 in
set_option maxHeartbeats 8000000 in
theorem enc_off {f g : Nat → UInt8} (h : ¬ C7.on (tf (V f)) (tf (V g))) (w : World) :
    Calls Try.prog 54 #[.agg (pc f g)] w fun e w' => e = .returned (.tuple #[.agg (bcells fun _ => 0), errPoint]) ∧ Ext w w' := by
  go_enter Try.func54, Try.ntmps54
  have hx : Ext w w := Ext.refl w
  go_upto_region 0 with fail
  have hok : TrsOk [] w.heap.size ([⟨some 0, 0, 43, none, fun cs => (Value.agg (List.toArray cs)) = .agg (pc (f) (g)), fun _ => True⟩, ⟨some 1, 0, 22, none, fun cs => cs.length = 32, fun _ => True⟩] : List Trk) := ⟨by simp, by simp, by simp, by simp⟩
  refine wp_region_text (Inv [] (fun j u => match j with | 2 => u = .nilIface | _ => True) [⟨some 0, 0, 43, none, fun cs => (Value.agg (List.toArray cs)) = .agg (pc (f) (g)), fun _ => True⟩, ⟨some 1, 0, 22, none, fun cs => cs.length = 32, fun _ => True⟩] w) plan_54_0 [(1, 0), (2, 1), (3, 2)] 25 rfl (by kernel_rfl) (Inv.start0 hok (by simp)) ⟨?_, ?_, ?_, trivial⟩ ?_
  · intro L v w hL hD hC hI
    refine ⟨fun _ => ?_, fun hw => by cases hw⟩
    refine hI.alloc_step hok hL ⟨some 0, 0, 43, none, fun cs => (Value.agg (List.toArray cs)) = .agg (pc (f) (g)), fun _ => True⟩ (by simp) rfl (by simp) (by intro s hs; cases hs) ?_
    rw [show readsOf plan_54_0 0 = [] from rfl]
    exact ⟨trivial, rfl, pcL f g, rfl, by show (Value.agg _ = Value.agg _); rfl⟩
  · intro L v w hL hD hC hI
    refine ⟨fun _ => ?_, fun hw => by cases hw⟩
    refine hI.alloc_step hok hL ⟨some 1, 0, 22, none, fun cs => cs.length = 32, fun _ => True⟩ (by simp) rfl (by simp) (by intro s hs; cases hs) ?_
    rw [show readsOf plan_54_0 1 = [] from rfl]
    go_simp
    first | exact ⟨rfl, _, rfl, by first | rfl | trivial⟩ | exact ⟨trivial, rfl, _, rfl, by first | rfl | trivial⟩ | exact ⟨rfl, (bcells fun _ => 0).toList, by rw [Array.toArray_toList], by simp⟩ | exact ⟨trivial, rfl, (bcells fun _ => 0).toList, by rw [Array.toArray_toList], by simp⟩
  · intro L v w hL hD hC hI
    refine ⟨fun _ => ?_, fun hw => by cases hw⟩
    refine hI.val_step hL (by simp) ?_
    rw [show readsOf plan_54_0 2 = [] from rfl]
    first | exact ⟨rfl, Ext.refl _⟩ | (go_simp; exact ⟨rfl, Ext.refl _⟩)
  intro L v1 W1 hL hI
  obtain ⟨b, cs, hb_b, lo_b, hr, hn, ho⟩ := hI.row_made ⟨some 0, 0, 43, none, fun cs => (Value.agg (List.toArray cs)) = .agg (pc (f) (g)), fun _ => True⟩ (by simp) 0 rfl (hL 0 (by decide))
  have R_b : RV W1 b 43 (fun u => u = .agg (pc (f) (g))) := ⟨cs, hr, ho (by intro s hs; cases hs)⟩
  clear hr hn ho
  obtain ⟨r, cs, hb_r, lo_r, hr, hn, ho⟩ := hI.row_made ⟨some 1, 0, 22, none, fun cs => cs.length = 32, fun _ => True⟩ (by simp) 1 rfl (hL 1 (by decide))
  have R_r : RL W1 r 22 32 := ⟨cs, hr, ho (by intro s hs; cases hs)⟩
  clear hr hn ho
  have ne_b_r : b ≠ r := fun e => hI.apart ⟨some 0, 0, 43, none, fun cs => (Value.agg (List.toArray cs)) = .agg (pc (f) (g)), fun _ => True⟩ (by simp) ⟨some 1, 0, 22, none, fun cs => cs.length = 32, fun _ => True⟩ (by simp) 0 1 rfl rfl (by decide) (hL 0 (by decide)) (hL 1 (by decide)) (by rw [hb_b, hb_r, e])
  have hx' : Ext w W1 := hx.trans hI.keep.to_ext
  have lt_b : b < W1.heap.size := R_b.lt
  have bs_b : w.heap.size ≤ b := Nat.le_trans hx.size lo_b
  have lt_r : r < W1.heap.size := R_r.lt
  have bs_r : w.heap.size ≤ r := Nat.le_trans hx.size lo_r
  have hs_3_0 : (v1 2) = .nilIface := hI.val 2 (hL 2 (by decide))
  clear hx hI hL hok L
  have hx := hx'
  clear hx'
  simp only [putP, Act.put, List.setIfInBounds_toArray, List.set_cons_zero, List.set_cons_succ, hb_b, hb_r, hs_3_0]
  go_upto_region 2 with (first | ((with_reducible refine wpl_P R_b ?_ (.tmp 1) ?_ ?_ ?_); rfl; rfl; rfl) | (go_at_call 29; (with_reducible refine (is_false h _).mono ?_); rintro e wq ⟨rfl, hxq⟩))
  replace R_b := R_b.ext hxq
  replace R_r := R_r.ext hxq
  replace lt_b := Nat.lt_of_lt_of_le lt_b hxq.size
  replace lt_r := Nat.lt_of_lt_of_le lt_r hxq.size
  replace hx := hx.trans hxq
  have hok : TrsOk [r] wq.heap.size ([⟨none, r, 22, some 2, fun cs => cs.length = 32, fun cs => (Value.agg (List.toArray cs)) = .agg (bcells (fun _ => 0))⟩] : List Trk) := ⟨by simp [R_r.lt], by simp, by simp, by simp⟩
  refine wp_region_text (Inv [r] (fun j u => match j with | 0 => u = .agg (bcells (fun _ => 0)) | 1 => u = .iface 30 (.int .i64 29) | 3 => u = .iface 30 (.int .i64 29) | _ => True) [⟨none, r, 22, some 2, fun cs => cs.length = 32, fun cs => (Value.agg (List.toArray cs)) = .agg (bcells (fun _ => 0))⟩] wq) plan_54_2 [(9, 0), (10, 1), (3, 3)] 25 rfl (by kernel_rfl) (Inv.start0 hok (by
      simp only [List.forall_mem_cons, List.not_mem_nil, false_implies, implies_true, and_true]
      exact fun _ => R_r)) ⟨?_, ?_, ?_, ?_, trivial⟩ ?_
  · intro L v w hL hD hC hI
    refine ⟨fun _ => ?_, fun hw => by cases hw⟩
    refine hI.val_step hL (by simp) ?_
    rw [show readsOf plan_54_2 0 = [] from rfl]
    go_simp
    exact ⟨rfl, Ext.refl _⟩
  · intro L v w hL hD hC hI
    refine ⟨fun _ => ?_, fun hw => by cases hw⟩
    refine hI.val_step hL (by simp) ?_
    rw [show readsOf plan_54_2 1 = [] from rfl]
    go_simp
    exact ⟨rfl, Ext.refl _⟩
  · intro L v w hL hD hC hI
    refine ⟨fun _ => ?_, fun hw => by cases hw⟩
    have h0 : (v 0) = .agg (bcells (fun _ => 0)) := hI.val 0 (hD 0 (by decide))
    refine hI.store_step hok hL ⟨none, r, 22, some 2, fun cs => cs.length = 32, fun cs => (Value.agg (List.toArray cs)) = .agg (bcells (fun _ => 0))⟩ (by simp) rfl (by simp) (by intro k hk; cases hk) ?_
    intro n cs hb hR hold
    change n = r at hb
    subst hb
    rw [show readsOf plan_54_2 2 = [(9, 0)] from rfl]
    exact st_B hR hold _ _ rfl rfl h0 fun w' cs' hr he hk => ⟨trivial, hk, cs', hr, he⟩
  · intro L v w hL hD hC hI
    refine ⟨fun _ => ?_, fun hw => by cases hw⟩
    have h1 : (v 1) = .iface 30 (.int .i64 29) := hI.val 1 (hD 1 (by decide))
    refine hI.val_step hL (by simp) ?_
    rw [show readsOf plan_54_2 3 = [(10, 1)] from rfl]
    exact ⟨h1, Ext.refl _⟩
  intro L v2 W2 hL hI
  have N_r : RV W2 r 22 (fun u => u = .agg (bcells (fun _ => 0))) := hI.row_new ⟨none, r, 22, some 2, fun cs => cs.length = 32, fun cs => (Value.agg (List.toArray cs)) = .agg (bcells (fun _ => 0))⟩ (by simp) rfl 2 rfl (hL 2 (by decide))
  replace R_b := R_b.keep hI.keep (by simp [ne_b_r, Ne.symm ne_b_r])
  clear R_r
  have R_r := N_r
  clear N_r
  replace lt_b := Nat.lt_of_lt_of_le lt_b hI.keep.size
  replace lt_r := Nat.lt_of_lt_of_le lt_r hI.keep.size
  have hx' : Ext w W2 := Ext.keep_ hx hI.keep (by simp only [List.forall_mem_cons, List.not_mem_nil, false_implies, implies_true, and_true]; exact bs_r)
  have hs_3_2 : (v2 3) = .iface 30 (.int .i64 29) := hI.val 3 (hL 3 (by decide))
  clear hx hI hL hok L
  have hx := hx'
  clear hx'
  simp only [putP, Act.put, List.setIfInBounds_toArray, List.set_cons_zero, List.set_cons_succ, hs_3_2]
  go_wp2
  refine bodyPost_ret (results_B2 rfl _ R_r rfl) rfl ?_
  refine ⟨?_, hx⟩
  rfl
end Go.Proofs.Ytndohjgfjbopnaa
