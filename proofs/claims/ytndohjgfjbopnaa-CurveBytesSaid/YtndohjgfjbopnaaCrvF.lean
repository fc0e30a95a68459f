/-
  The curve's points: the base point, the negative, the sum as the package curve tells them.
-/
import Derived.Test.YtndohjgfjbopnaaCrvD
import Derived.Test.YtndohjgfjbopnaaCrvE
set_option linter.unusedSimpArgs false
set_option linter.unusedVariables false
namespace Go.Proofs.Ytndohjgfjbopnaa
open Go.RowKit Go.Cv Go.Cv.Pr Go.Cv.Grp
/-- No point of the curve. -/
def errPoint : Value := .iface 30 (.int .i64 29)
theorem is_true {f g : Nat → UInt8} (h : C7.on (tf (V f)) (tf (V g))) (w : World) : Calls Try.prog 29 #[.agg (pc f g)] w fun e w' => e = .returned (.bool true) ∧ Ext w w' := by
  have h' : tf (V g) * tf (V g) - tf (V f) * tf (V f) = 1 + C7.d * (tf (V f) * tf (V f)) * (tf (V g) * tf (V g)) := h
  have := is_any f g w
  rwa [decide_eq_true h'] at this
theorem is_false {f g : Nat → UInt8} (h : ¬ C7.on (tf (V f)) (tf (V g))) (w : World) : Calls Try.prog 29 #[.agg (pc f g)] w fun e w' => e = .returned (.bool false) ∧ Ext w w' := by
  have h' : ¬ (tf (V g) * tf (V g) - tf (V f) * tf (V f) = 1 + C7.d * (tf (V f) * tf (V f)) * (tf (V g) * tf (V g))) := h
  have := is_any f g w
  rwa [decide_eq_false h'] at this
theorem cinP {f g : Nat → UInt8} {P : P7} (hx : tf (V f) = P.x) (hy : tf (V g) = P.y) (w : World) : Calls Try.prog 82 #[.agg (pc f g)] w fun e w' => ∃ r, e = .returned r ∧ isP r P ∧ Ext w w' := by
  refine (cin_any f g w).mono ?_
  rintro e w' ⟨r, rfl, hr, hx'⟩
  rw [hx, hy] at hr
  exact ⟨r, rfl, ⟨_, _, _, _, hr, Rep.of P⟩, hx'⟩
theorem isP_len {cs : List Value} {P : P7} (h : isP (.agg cs.toArray) P) : cs.length = 16 := by
  obtain ⟨X, Y, Z, T, h1, _⟩ := h
  exact isW_len h1
theorem V_z : tf (V fun _ => 0) = 0 := by
  have : V (fun _ => 0) = 0 := by decide
  rw [this, tf_zero]
theorem fsubF (f g : Nat → UInt8) (w : World) : Calls Try.prog 23 #[.agg (bcells f), .agg (bcells g)] w fun e w' => e = .returned (.agg (bcells (fb (tf (V f) - tf (V g))))) ∧ Ext w w' := by
  have := fsub_any f g w
  rwa [ob_fb, sub_tf] at this
theorem reduceF (f : Nat → UInt8) (w : World) : Calls Try.prog 27 #[.agg (bcells f)] w fun e w' => e = .returned (.agg (bcells (fb (tf (V f))))) ∧ Ext w w' := reduce_any f w
theorem wpl_P {ops : Array Oper} {rest : List Oper} {o : Oper} {a : Act} {w : World} {Q : Exit → Act → World → Prop} {n : Nat} {f g : Nat → UInt8} (hR : RV w n 43 (fun u => u = .agg (pc f g))) (hgd : Region.wanted o (yielded ops a.tmps) = true) (x : Operand) (ho : o.op = .load 43 x) (hx : a.eval x = .pointer (some ⟨n, 0, none⟩))
    (h : wpList Try.prog ops Q rest (a.put o.dst (.agg (pc f g))) w) : wpList Try.prog ops Q (o :: rest) a w :=
  wpList_step fun K hK => by
    rw [if_pos hgd]
    obtain ⟨cs, h1, h2⟩ := hR
    obtain ⟨fs, hu⟩ := uPt
    rw [pcL_of h2] at h1
    exact wp_load_row _ x ho n hx _ (pcL f g).toArray (0, 0) _ h1 hu rfl (by rw [List.size_toArray, pcL_len]; exact iPt) (hK _ _ h)
theorem results_P2 {fn : Func} {p u : Tmp} (h : fn.results = #[.cell p 43, .tmp u]) (tmps : Array Value) {W : World} {n : Nat} {f g : Nat → UInt8} (hR : RV W n 43 (fun u => u = .agg (pc f g)))
    (hp : tmps.getD p undef = .pointer (some ⟨n, 0, none⟩)) : (results fn tmps).run Try.prog W = .ok (.tuple #[.agg (pc f g), tmps.getD u undef]) W := by
  obtain ⟨cs, h1, h2⟩ := hR
  obtain ⟨fs, hu⟩ := uPt
  have hl := run_loadVar_row W n _ 43 cs.toArray (0, 0) _ h1 hu rfl (by rw [List.size_toArray, pcL_of h2, pcL_len]; exact iPt)
  rw [results_cell_tmp h, hp]
  simp only [asAddr, Sem.run_pure, Result.andThen_ok, hl]
  rw [show Value.agg (List.toArray cs) = Value.agg (pc f g) from h2]
theorem give_build {w : World} {o : Oper} {ev : Operand → Value} {R : Value → World → Prop} (t : TypeId) (parts : Array (Nat × Operand)) (ho : o.op = .build t parts) (cells : Array Value) (h : Try.prog.built t (parts.map fun (i, x) => (i, ev x)).toList = some cells) (hR : R (.agg cells) w) : Gives Try.prog R ((execOp ev o).run Try.prog w) := by
  unfold execOp
  simp only [ho, Sem.run_bind, run_build w t _ cells h, Result.andThen_ok]
  exact hR
theorem zeroP : Try.prog.built 43 [] = some (List.replicate 64 (Value.int .u8 0)).toArray := by kernel_rfl
theorem give_zeroP {w : World} {o : Oper} {ev : Operand → Value} {R : Value → World → Prop} (ho : o.op = .build 43 #[]) (h : R (.agg (pc (fun _ => 0) (fun _ => 0))) w) : Gives Try.prog R ((execOp ev o).run Try.prog w) := by
  have hb := run_build w 43 #[] _ zeroP
  unfold execOp
  simp only [ho, List.map_toArray, List.map_nil, Sem.run_bind, hb, Result.andThen_ok]
  rw [pc_zero] at h
  exact h
theorem base_x : (#[.int .u8 26, .int .u8 213, .int .u8 37, .int .u8 143, .int .u8 96, .int .u8 45, .int .u8 86, .int .u8 201, .int .u8 178, .int .u8 167, .int .u8 37, .int .u8 149, .int .u8 96, .int .u8 199, .int .u8 44, .int .u8 105, .int .u8 92, .int .u8 220, .int .u8 214, .int .u8 253, .int .u8 49, .int .u8 226, .int .u8 164, .int .u8 192, .int .u8 254, .int .u8 83, .int .u8 110, .int .u8 205, .int .u8 211, .int .u8 54, .int .u8 105, .int .u8 33] : Array Value) = bcells (fb (tf bxN)) := by
  rw [bcells_def]
  kernel_rfl
theorem base_y : (#[.int .u8 88, .int .u8 102, .int .u8 102, .int .u8 102, .int .u8 102, .int .u8 102, .int .u8 102, .int .u8 102, .int .u8 102, .int .u8 102, .int .u8 102, .int .u8 102, .int .u8 102, .int .u8 102, .int .u8 102, .int .u8 102, .int .u8 102, .int .u8 102, .int .u8 102, .int .u8 102, .int .u8 102, .int .u8 102, .int .u8 102, .int .u8 102, .int .u8 102, .int .u8 102, .int .u8 102, .int .u8 102, .int .u8 102, .int .u8 102, .int .u8 102, .int .u8 102] : Array Value) = bcells (fb (tf byN)) := by
  rw [bcells_def]
  kernel_rfl
section
variable {w : World} {o : Oper} {ev : Operand → Value} {R : Value → World → Prop} {n : Nat} {P : P7}
theorem ld_Pw (hR : RV w n 91 (fun u => isP u P)) (p : Operand) (ho : o.op = .load 91 p) (hx : ev p = .pointer (some ⟨n, 0, none⟩)) (h : ∀ u, isP u P → R u w) : Gives Try.prog R ((execOp ev o).run Try.prog w) := by
  obtain ⟨cs, h1, X, Y, Z, T, h2, h3⟩ := hR
  exact ld_W ⟨cs, h1, h2⟩ p ho hx fun u hu => h u ⟨X, Y, Z, T, hu, h3⟩
theorem st_Pw {cs : List Value} (hR : Row w n 91 cs) (hl : cs.length = 16) (p q : Operand) (ho : o.op = .store 91 p q) (hx : ev p = .pointer (some ⟨n, 0, none⟩)) (hy : isP (ev q) P)
    (h : ∀ w' cs', Row w' n 91 cs' → isP (.agg (List.toArray cs')) P → Keep [n] w w' → R undef w') : Gives Try.prog R ((execOp ev o).run Try.prog w) := by
  obtain ⟨X, Y, Z, T, h2, h3⟩ := hy
  exact st_W hR hl p q ho hx h2 fun w' cs' hr he hk => h w' cs' hr ⟨X, Y, Z, T, he, h3⟩ hk
end
def plan_30_0 : List Plan := [⟨[], []⟩]
def plan_30_1 : List Plan := [⟨[], []⟩, ⟨[], []⟩, ⟨[0, 1], [(1, 0), (2, 1)]⟩, ⟨[0, 1, 2], [(3, 2)]⟩]
set_option maxRecDepth 20000 in
set_option maxHeartbeats 8000000 in
theorem base_any (w : World) :
    Calls Try.prog 30 #[] w fun e w' => e = .returned (.agg (pc (fb B7.x) (fb B7.y))) ∧ Ext w w' := by
  go_enter Try.func30, Try.ntmps30
  have hx : Ext w w := Ext.refl w
  go_upto_region 0 with fail
  have hok : TrsOk [] w.heap.size ([⟨some 0, 0, 43, none, fun cs => cs.length = 64, fun _ => True⟩] : List Trk) := ⟨by simp, by simp, by simp, by simp⟩
  refine wp_region_text (Inv [] (fun _ _ => True) [⟨some 0, 0, 43, none, fun cs => cs.length = 64, fun _ => True⟩] w) plan_30_0 [(0, 0)] 4 rfl (by kernel_rfl) (Inv.start0 hok (by simp)) ⟨?_, trivial⟩ ?_
  · intro L v w hL hD hC hI
    refine ⟨fun _ => ?_, fun hw => by cases hw⟩
    refine hI.alloc_step hok hL ⟨some 0, 0, 43, none, fun cs => cs.length = 64, fun _ => True⟩ (by simp) rfl (by simp) (by intro s hs; cases hs) ?_
    rw [show readsOf plan_30_0 0 = [] from rfl]
    go_simp
    first | exact ⟨rfl, _, rfl, by first | rfl | trivial⟩ | exact ⟨trivial, rfl, _, rfl, by first | rfl | trivial⟩ | exact ⟨rfl, (bcells fun _ => 0).toList, by rw [Array.toArray_toList], by simp⟩ | exact ⟨trivial, rfl, (bcells fun _ => 0).toList, by rw [Array.toArray_toList], by simp⟩
  intro L v1 W1 hL hI
  obtain ⟨r, cs, hb_r, lo_r, hr, hn, ho⟩ := hI.row_made ⟨some 0, 0, 43, none, fun cs => cs.length = 64, fun _ => True⟩ (by simp) 0 rfl (hL 0 (by decide))
  have R_r : RL W1 r 43 64 := ⟨cs, hr, ho (by intro s hs; cases hs)⟩
  clear hr hn ho
  have hx' : Ext w W1 := hx.trans hI.keep.to_ext
  have lt_r : r < W1.heap.size := R_r.lt
  have bs_r : w.heap.size ≤ r := Nat.le_trans hx.size lo_r
  clear hx hI hL hok L
  have hx := hx'
  clear hx'
  simp only [putP, Act.put, List.setIfInBounds_toArray, List.set_cons_zero, List.set_cons_succ, hb_r]
  go_upto_region 1 with fail
  have hok : TrsOk [r] W1.heap.size ([⟨none, r, 43, some 3, fun cs => cs.length = 64, fun cs => (Value.agg (List.toArray cs)) = .agg (pc (fb (tf bxN)) (fb (tf byN)))⟩] : List Trk) := ⟨by simp [R_r.lt], by simp, by simp, by simp⟩
  refine wp_region_text (Inv [r] (fun j u => match j with | 0 => u = .agg (bcells (fb (tf bxN))) | 1 => u = .agg (bcells (fb (tf byN))) | 2 => u = .agg (pc (fb (tf bxN)) (fb (tf byN))) | _ => True) [⟨none, r, 43, some 3, fun cs => cs.length = 64, fun cs => (Value.agg (List.toArray cs)) = .agg (pc (fb (tf bxN)) (fb (tf byN)))⟩] W1) plan_30_1 [(1, 0), (2, 1), (3, 2)] 4 rfl (by kernel_rfl) (Inv.start0 hok (by
      simp only [List.forall_mem_cons, List.not_mem_nil, false_implies, implies_true, and_true]
      exact fun _ => R_r)) ⟨?_, ?_, ?_, ?_, trivial⟩ ?_
  · intro L v w hL hD hC hI
    refine ⟨fun _ => ?_, fun hw => by cases hw⟩
    refine hI.val_step hL (by simp) ?_
    rw [show readsOf plan_30_1 0 = [] from rfl]
    exact give_build _ _ rfl #[.int .u8 26, .int .u8 213, .int .u8 37, .int .u8 143, .int .u8 96, .int .u8 45, .int .u8 86, .int .u8 201, .int .u8 178, .int .u8 167, .int .u8 37, .int .u8 149, .int .u8 96, .int .u8 199, .int .u8 44, .int .u8 105, .int .u8 92, .int .u8 220, .int .u8 214, .int .u8 253, .int .u8 49, .int .u8 226, .int .u8 164, .int .u8 192, .int .u8 254, .int .u8 83, .int .u8 110, .int .u8 205, .int .u8 211, .int .u8 54, .int .u8 105, .int .u8 33] (by kernel_rfl) ⟨congrArg Value.agg base_x, Ext.refl _⟩
  · intro L v w hL hD hC hI
    refine ⟨fun _ => ?_, fun hw => by cases hw⟩
    refine hI.val_step hL (by simp) ?_
    rw [show readsOf plan_30_1 1 = [] from rfl]
    exact give_build _ _ rfl #[.int .u8 88, .int .u8 102, .int .u8 102, .int .u8 102, .int .u8 102, .int .u8 102, .int .u8 102, .int .u8 102, .int .u8 102, .int .u8 102, .int .u8 102, .int .u8 102, .int .u8 102, .int .u8 102, .int .u8 102, .int .u8 102, .int .u8 102, .int .u8 102, .int .u8 102, .int .u8 102, .int .u8 102, .int .u8 102, .int .u8 102, .int .u8 102, .int .u8 102, .int .u8 102, .int .u8 102, .int .u8 102, .int .u8 102, .int .u8 102, .int .u8 102, .int .u8 102] (by kernel_rfl) ⟨congrArg Value.agg base_y, Ext.refl _⟩
  · intro L v w hL hD hC hI
    refine ⟨fun _ => ?_, fun hw => by cases hw⟩
    have h0 : (v 0) = .agg (bcells (fb (tf bxN))) := hI.val 0 (hD 0 (by decide))
    have h1 : (v 1) = .agg (bcells (fb (tf byN))) := hI.val 1 (hD 1 (by decide))
    refine hI.val_step hL (by simp) ?_
    rw [show readsOf plan_30_1 2 = [(1, 0), (2, 1)] from rfl]
    exact bd_P _ _ rfl h0 h1 fun u hu => ⟨hu, Ext.refl _⟩
  · intro L v w hL hD hC hI
    refine ⟨fun _ => ?_, fun hw => by cases hw⟩
    have h2 : (v 2) = .agg (pc (fb (tf bxN)) (fb (tf byN))) := hI.val 2 (hD 2 (by decide))
    refine hI.store_step hok hL ⟨none, r, 43, some 3, fun cs => cs.length = 64, fun cs => (Value.agg (List.toArray cs)) = .agg (pc (fb (tf bxN)) (fb (tf byN)))⟩ (by simp) rfl (by simp) (by intro k hk; cases hk) ?_
    intro n cs hb hR hold
    change n = r at hb
    subst hb
    rw [show readsOf plan_30_1 3 = [(3, 2)] from rfl]
    exact st_P hR hold _ _ rfl rfl h2 fun w' cs' hr he hk => ⟨trivial, hk, cs', hr, he⟩
  intro L v2 W2 hL hI
  have N_r : RV W2 r 43 (fun u => u = .agg (pc (fb (tf bxN)) (fb (tf byN)))) := hI.row_new ⟨none, r, 43, some 3, fun cs => cs.length = 64, fun cs => (Value.agg (List.toArray cs)) = .agg (pc (fb (tf bxN)) (fb (tf byN)))⟩ (by simp) rfl 3 rfl (hL 3 (by decide))
  clear R_r
  have R_r := N_r
  clear N_r
  replace lt_r := Nat.lt_of_lt_of_le lt_r hI.keep.size
  have hx' : Ext w W2 := Ext.keep_ hx hI.keep (by simp only [List.forall_mem_cons, List.not_mem_nil, false_implies, implies_true, and_true]; exact bs_r)
  clear hx hI hL hok L
  have hx := hx'
  clear hx'
  simp only [putP, Act.put, List.setIfInBounds_toArray, List.set_cons_zero, List.set_cons_succ]
  go_wp2
  obtain ⟨cs, hr, hv⟩ := R_r
  replace hv : (Value.agg (List.toArray cs)) = .agg (pc (fb (tf bxN)) (fb (tf byN))) := hv
  obtain ⟨fs, hu'⟩ := uPt
  refine bodyPost_ret (results_cell_row (p := 0) (ty := 43) rfl _ _ r 43 _ (0, 0) _ rfl hr hu' rfl (by rw [List.size_toArray, (show cs.length = 64 by rw [pcL_of hv]; exact pcL_len _ _)]; exact iPt)) rfl ?_
  exact ⟨by rw [hv]; rfl, hx⟩
def plan_45_0 : List Plan := [⟨[], []⟩, ⟨[], []⟩, ⟨[], []⟩]
def plan_45_3 : List Plan := [⟨[], []⟩, ⟨[], []⟩, ⟨[1], [(10, 1)]⟩, ⟨[0, 1, 2], [(9, 0), (11, 2)]⟩, ⟨[], []⟩, ⟨[4], [(13, 4)]⟩, ⟨[0, 1, 2, 3, 4, 5], [(14, 5)]⟩, ⟨[0, 1, 2, 3, 4, 5, 6], [(12, 3), (15, 6)]⟩, ⟨[0, 1, 2, 3, 4, 5, 6, 7], [(16, 7)]⟩, ⟨[0, 1, 2, 3, 4, 5, 6, 7, 8], []⟩]
def plan_45_2 : List Plan := [⟨[], []⟩, ⟨[], []⟩, ⟨[0], [(7, 0)]⟩, ⟨[0, 1, 2], [(8, 1)]⟩]
def plan_44_0 : List Plan := [⟨[], []⟩, ⟨[], []⟩, ⟨[], []⟩, ⟨[], []⟩]
def plan_44_3 : List Plan := [⟨[], []⟩, ⟨[0], [(16, 0)]⟩, ⟨[], []⟩, ⟨[0, 1, 2], [(18, 2)]⟩, ⟨[0, 1, 2, 3], [(17, 1), (19, 3)]⟩, ⟨[0, 1, 2, 3, 4], [(20, 4)]⟩, ⟨[0, 1, 2, 3, 4, 5], [(21, 5)]⟩, ⟨[0, 1, 2, 3, 4, 5, 6], []⟩]
def plan_44_2 : List Plan := [⟨[], []⟩, ⟨[], []⟩, ⟨[0], [(14, 0)]⟩, ⟨[0, 1, 2], [(15, 1)]⟩]
set_option maxRecDepth 20000 in
set_option maxHeartbeats 8000000 in
theorem neg_on {f g : Nat → UInt8} (h : C7.on (tf (V f)) (tf (V g))) (w : World) :
    Calls Try.prog 45 #[.agg (pc f g)] w fun e w' => e = .returned (.tuple #[.agg (pc (fb (0 - tf (V f))) (fb (tf (V g)))), .nilIface]) ∧ Ext w w' := by
  go_enter Try.func45, Try.ntmps45
  have hx : Ext w w := Ext.refl w
  go_upto_region 0 with fail
  have hok : TrsOk [] w.heap.size ([⟨some 0, 0, 43, none, fun cs => (Value.agg (List.toArray cs)) = .agg (pc (f) (g)), fun _ => True⟩, ⟨some 1, 0, 43, none, fun cs => cs.length = 64, fun _ => True⟩] : List Trk) := ⟨by simp, by simp, by simp, by simp⟩
  refine wp_region_text (Inv [] (fun j u => match j with | 2 => u = .nilIface | _ => True) [⟨some 0, 0, 43, none, fun cs => (Value.agg (List.toArray cs)) = .agg (pc (f) (g)), fun _ => True⟩, ⟨some 1, 0, 43, none, fun cs => cs.length = 64, fun _ => True⟩] w) plan_45_0 [(1, 0), (2, 1), (3, 2)] 17 rfl (by kernel_rfl) (Inv.start0 hok (by simp)) ⟨?_, ?_, ?_, trivial⟩ ?_
  · intro L v w hL hD hC hI
    refine ⟨fun _ => ?_, fun hw => by cases hw⟩
    refine hI.alloc_step hok hL ⟨some 0, 0, 43, none, fun cs => (Value.agg (List.toArray cs)) = .agg (pc (f) (g)), fun _ => True⟩ (by simp) rfl (by simp) (by intro s hs; cases hs) ?_
    rw [show readsOf plan_45_0 0 = [] from rfl]
    exact ⟨trivial, rfl, pcL f g, rfl, by show (Value.agg _ = Value.agg _); rfl⟩
  · intro L v w hL hD hC hI
    refine ⟨fun _ => ?_, fun hw => by cases hw⟩
    refine hI.alloc_step hok hL ⟨some 1, 0, 43, none, fun cs => cs.length = 64, fun _ => True⟩ (by simp) rfl (by simp) (by intro s hs; cases hs) ?_
    rw [show readsOf plan_45_0 1 = [] from rfl]
    go_simp
    first | exact ⟨rfl, _, rfl, by first | rfl | trivial⟩ | exact ⟨trivial, rfl, _, rfl, by first | rfl | trivial⟩ | exact ⟨rfl, (bcells fun _ => 0).toList, by rw [Array.toArray_toList], by simp⟩ | exact ⟨trivial, rfl, (bcells fun _ => 0).toList, by rw [Array.toArray_toList], by simp⟩
  · intro L v w hL hD hC hI
    refine ⟨fun _ => ?_, fun hw => by cases hw⟩
    refine hI.val_step hL (by simp) ?_
    rw [show readsOf plan_45_0 2 = [] from rfl]
    first | exact ⟨rfl, Ext.refl _⟩ | (go_simp; exact ⟨rfl, Ext.refl _⟩)
  intro L v1 W1 hL hI
  obtain ⟨b, cs, hb_b, lo_b, hr, hn, ho⟩ := hI.row_made ⟨some 0, 0, 43, none, fun cs => (Value.agg (List.toArray cs)) = .agg (pc (f) (g)), fun _ => True⟩ (by simp) 0 rfl (hL 0 (by decide))
  have R_b : RV W1 b 43 (fun u => u = .agg (pc (f) (g))) := ⟨cs, hr, ho (by intro s hs; cases hs)⟩
  clear hr hn ho
  obtain ⟨r, cs, hb_r, lo_r, hr, hn, ho⟩ := hI.row_made ⟨some 1, 0, 43, none, fun cs => cs.length = 64, fun _ => True⟩ (by simp) 1 rfl (hL 1 (by decide))
  have R_r : RL W1 r 43 64 := ⟨cs, hr, ho (by intro s hs; cases hs)⟩
  clear hr hn ho
  have ne_b_r : b ≠ r := fun e => hI.apart ⟨some 0, 0, 43, none, fun cs => (Value.agg (List.toArray cs)) = .agg (pc (f) (g)), fun _ => True⟩ (by simp) ⟨some 1, 0, 43, none, fun cs => cs.length = 64, fun _ => True⟩ (by simp) 0 1 rfl rfl (by decide) (hL 0 (by decide)) (hL 1 (by decide)) (by rw [hb_b, hb_r, e])
  have hx' : Ext w W1 := hx.trans hI.keep.to_ext
  have lt_b : b < W1.heap.size := R_b.lt
  have bs_b : w.heap.size ≤ b := Nat.le_trans hx.size lo_b
  have lt_r : r < W1.heap.size := R_r.lt
  have bs_r : w.heap.size ≤ r := Nat.le_trans hx.size lo_r
  have hs_3_0 : (v1 2) = .nilIface := hI.val 2 (hL 2 (by decide))
  clear hx hI hL hok L
  have hx := hx'
  clear hx'
  simp only [putP, Act.put, List.setIfInBounds_toArray, List.set_cons_zero, List.set_cons_succ, hb_b, hb_r, hs_3_0]
  go_upto_region 3 with (first | ((with_reducible refine wpl_P R_b ?_ (.tmp 1) ?_ ?_ ?_); rfl; rfl; rfl) | (go_at_call 29; (with_reducible refine (is_true h _).mono ?_); rintro e wq ⟨rfl, hxq⟩))
  replace R_b := R_b.ext hxq
  replace R_r := R_r.ext hxq
  replace lt_b := Nat.lt_of_lt_of_le lt_b hxq.size
  replace lt_r := Nat.lt_of_lt_of_le lt_r hxq.size
  replace hx := hx.trans hxq
  have hok : TrsOk [r] wq.heap.size ([⟨none, r, 43, some 8, fun cs => cs.length = 64, fun cs => (Value.agg (List.toArray cs)) = .agg (pc (fb (tf (V (fun _ => 0)) - tf (V (f)))) (fb (tf (V (g)))))⟩] : List Trk) := ⟨by simp [R_r.lt], by simp, by simp, by simp⟩
  refine wp_region_plan (Inv [r] (fun j u => match j with | 0 => u = .agg (bcells (fun _ => 0)) | 1 => u = .pointer (some ⟨b, 0, none⟩) | 2 => u = .agg (bcells (f)) | 3 => u = .agg (bcells (fb (tf (V (fun _ => 0)) - tf (V (f))))) | 4 => u = .pointer (some ⟨b, 32, none⟩) | 5 => u = .agg (bcells (g)) | 6 => u = .agg (bcells (fb (tf (V (g))))) | 7 => u = .agg (pc (fb (tf (V (fun _ => 0)) - tf (V (f)))) (fb (tf (V (g))))) | 9 => u = .nilIface | _ => True) [⟨none, r, 43, some 8, fun cs => cs.length = 64, fun cs => (Value.agg (List.toArray cs)) = .agg (pc (fb (tf (V (fun _ => 0)) - tf (V (f)))) (fb (tf (V (g)))))⟩] wq) plan_45_3 [(9, 0), (10, 1), (11, 2), (12, 3), (13, 4), (14, 5), (15, 6), (16, 7), (3, 9)] 17 (by kernel_rfl) rfl (by kernel_rfl) (Inv.start hok (by
      simp only [List.forall_mem_cons, List.not_mem_nil, false_implies, implies_true, and_true]
      exact fun _ => R_r)) ⟨?_, ?_, ?_, ?_, ?_, ?_, ?_, ?_, ?_, ?_, trivial⟩ ?_
  · intro L v w hL hD hC hI
    refine ⟨fun _ => ?_, fun hw => by cases hw⟩
    refine hI.val_step hL (by simp) ?_
    rw [show readsOf plan_45_3 0 = [] from rfl]
    go_simp
    exact ⟨rfl, Ext.refl _⟩
  · intro L v w hL hD hC hI
    refine ⟨fun _ => ?_, fun hw => by cases hw⟩
    refine hI.val_step hL (by simp) ?_
    rw [show readsOf plan_45_3 1 = [] from rfl]
    go_simp
    exact ⟨rfl, Ext.refl _⟩
  · intro L v w hL hD hC hI
    refine ⟨fun _ => ?_, fun hw => by cases hw⟩
    have h1 : (v 1) = .pointer (some ⟨b, 0, none⟩) := hI.val 1 (hD 1 (by decide))
    refine hI.val_step hL (by simp) ?_
    rw [show readsOf plan_45_3 2 = [(10, 1)] from rfl]
    exact ld_Px (R_b.keep hI.keep (by simp [ne_b_r, Ne.symm ne_b_r])) _ rfl h1 fun u hu => ⟨hu, Ext.refl _⟩
  · intro L v w hL hD hC hI
    refine ⟨fun _ => ?_, fun hw => by cases hw⟩
    have h0 : (v 0) = .agg (bcells (fun _ => 0)) := hI.val 0 (hD 0 (by decide))
    have h2 : (v 2) = .agg (bcells (f)) := hI.val 2 (hD 2 (by decide))
    refine hI.val_step hL (by simp) ?_
    rw [show readsOf plan_45_3 3 = [(9, 0), (11, 2)] from rfl]
    refine give_call _ _ _ _ rfl rfl Try.func23 (by kernel_rfl) (by kernel_rfl) ?_
    refine Calls.mono (by have := fsubF (fun _ => 0) (f) w; rwa [← h0, ← h2] at this) ?_
    rintro e w' ⟨rfl, hx⟩
    exact ⟨_, rfl, rfl, hx⟩
  · intro L v w hL hD hC hI
    refine ⟨fun _ => ?_, fun hw => by cases hw⟩
    refine hI.val_step hL (by simp) ?_
    rw [show readsOf plan_45_3 4 = [] from rfl]
    go_simp
    exact ⟨rfl, Ext.refl _⟩
  · intro L v w hL hD hC hI
    refine ⟨fun _ => ?_, fun hw => by cases hw⟩
    have h4 : (v 4) = .pointer (some ⟨b, 32, none⟩) := hI.val 4 (hD 4 (by decide))
    refine hI.val_step hL (by simp) ?_
    rw [show readsOf plan_45_3 5 = [(13, 4)] from rfl]
    exact ld_Py (R_b.keep hI.keep (by simp [ne_b_r, Ne.symm ne_b_r])) _ rfl h4 fun u hu => ⟨hu, Ext.refl _⟩
  · intro L v w hL hD hC hI
    refine ⟨fun _ => ?_, fun hw => by cases hw⟩
    have h5 : (v 5) = .agg (bcells (g)) := hI.val 5 (hD 5 (by decide))
    refine hI.val_step hL (by simp) ?_
    rw [show readsOf plan_45_3 6 = [(14, 5)] from rfl]
    refine give_call _ _ _ _ rfl rfl Try.func27 (by kernel_rfl) (by kernel_rfl) ?_
    refine Calls.mono (by have := reduceF (g) w; rwa [← h5] at this) ?_
    rintro e w' ⟨rfl, hx⟩
    exact ⟨_, rfl, rfl, hx⟩
  · intro L v w hL hD hC hI
    refine ⟨fun _ => ?_, fun hw => by cases hw⟩
    have h3 : (v 3) = .agg (bcells (fb (tf (V (fun _ => 0)) - tf (V (f))))) := hI.val 3 (hD 3 (by decide))
    have h6 : (v 6) = .agg (bcells (fb (tf (V (g))))) := hI.val 6 (hD 6 (by decide))
    refine hI.val_step hL (by simp) ?_
    rw [show readsOf plan_45_3 7 = [(12, 3), (15, 6)] from rfl]
    exact bd_P _ _ rfl h3 h6 fun u hu => ⟨hu, Ext.refl _⟩
  · intro L v w hL hD hC hI
    refine ⟨fun _ => ?_, fun hw => by cases hw⟩
    have h7 : (v 7) = .agg (pc (fb (tf (V (fun _ => 0)) - tf (V (f)))) (fb (tf (V (g))))) := hI.val 7 (hD 7 (by decide))
    refine hI.store_step hok hL ⟨none, r, 43, some 8, fun cs => cs.length = 64, fun cs => (Value.agg (List.toArray cs)) = .agg (pc (fb (tf (V (fun _ => 0)) - tf (V (f)))) (fb (tf (V (g)))))⟩ (by simp) rfl (by simp) (by intro k hk; cases hk) ?_
    intro n cs hb hR hold
    change n = r at hb
    subst hb
    rw [show readsOf plan_45_3 8 = [(16, 7)] from rfl]
    exact st_P hR hold _ _ rfl rfl h7 fun w' cs' hr he hk => ⟨trivial, hk, cs', hr, he⟩
  · intro L v w hL hD hC hI
    refine ⟨fun _ => ?_, fun hw => by cases hw⟩
    refine hI.val_step hL (by simp) ?_
    rw [show readsOf plan_45_3 9 = [] from rfl]
    first | exact ⟨rfl, Ext.refl _⟩ | (go_simp; exact ⟨rfl, Ext.refl _⟩)
  intro L v2 W2 hL hI
  have N_r : RV W2 r 43 (fun u => u = .agg (pc (fb (tf (V (fun _ => 0)) - tf (V (f)))) (fb (tf (V (g)))))) := hI.row_new ⟨none, r, 43, some 8, fun cs => cs.length = 64, fun cs => (Value.agg (List.toArray cs)) = .agg (pc (fb (tf (V (fun _ => 0)) - tf (V (f)))) (fb (tf (V (g)))))⟩ (by simp) rfl 8 rfl (hL 8 (by decide))
  replace R_b := R_b.keep hI.keep (by simp [ne_b_r, Ne.symm ne_b_r])
  clear R_r
  have R_r := N_r
  clear N_r
  replace lt_b := Nat.lt_of_lt_of_le lt_b hI.keep.size
  replace lt_r := Nat.lt_of_lt_of_le lt_r hI.keep.size
  have hx' : Ext w W2 := Ext.keep_ hx hI.keep (by simp only [List.forall_mem_cons, List.not_mem_nil, false_implies, implies_true, and_true]; exact bs_r)
  have hs_3_3 : (v2 9) = .nilIface := hI.val 9 (hL 9 (by decide))
  clear hx hI hL hok L
  have hx := hx'
  clear hx'
  simp only [putP, Act.put, List.setIfInBounds_toArray, List.set_cons_zero, List.set_cons_succ, hs_3_3]
  go_wp2
  rw [V_z] at R_r
  refine bodyPost_ret (results_P2 rfl _ R_r rfl) rfl ?_
  refine ⟨?_, hx⟩
  rfl
set_option maxRecDepth 20000 in
set_option maxHeartbeats 8000000 in
theorem neg_off {f g : Nat → UInt8} (h : ¬ C7.on (tf (V f)) (tf (V g))) (w : World) :
    Calls Try.prog 45 #[.agg (pc f g)] w fun e w' => e = .returned (.tuple #[.agg (pc (fun _ => 0) (fun _ => 0)), errPoint]) ∧ Ext w w' := by
  go_enter Try.func45, Try.ntmps45
  have hx : Ext w w := Ext.refl w
  go_upto_region 0 with fail
  have hok : TrsOk [] w.heap.size ([⟨some 0, 0, 43, none, fun cs => (Value.agg (List.toArray cs)) = .agg (pc (f) (g)), fun _ => True⟩, ⟨some 1, 0, 43, none, fun cs => cs.length = 64, fun _ => True⟩] : List Trk) := ⟨by simp, by simp, by simp, by simp⟩
  refine wp_region_text (Inv [] (fun j u => match j with | 2 => u = .nilIface | _ => True) [⟨some 0, 0, 43, none, fun cs => (Value.agg (List.toArray cs)) = .agg (pc (f) (g)), fun _ => True⟩, ⟨some 1, 0, 43, none, fun cs => cs.length = 64, fun _ => True⟩] w) plan_45_0 [(1, 0), (2, 1), (3, 2)] 17 rfl (by kernel_rfl) (Inv.start0 hok (by simp)) ⟨?_, ?_, ?_, trivial⟩ ?_
  · intro L v w hL hD hC hI
    refine ⟨fun _ => ?_, fun hw => by cases hw⟩
    refine hI.alloc_step hok hL ⟨some 0, 0, 43, none, fun cs => (Value.agg (List.toArray cs)) = .agg (pc (f) (g)), fun _ => True⟩ (by simp) rfl (by simp) (by intro s hs; cases hs) ?_
    rw [show readsOf plan_45_0 0 = [] from rfl]
    exact ⟨trivial, rfl, pcL f g, rfl, by show (Value.agg _ = Value.agg _); rfl⟩
  · intro L v w hL hD hC hI
    refine ⟨fun _ => ?_, fun hw => by cases hw⟩
    refine hI.alloc_step hok hL ⟨some 1, 0, 43, none, fun cs => cs.length = 64, fun _ => True⟩ (by simp) rfl (by simp) (by intro s hs; cases hs) ?_
    rw [show readsOf plan_45_0 1 = [] from rfl]
    go_simp
    first | exact ⟨rfl, _, rfl, by first | rfl | trivial⟩ | exact ⟨trivial, rfl, _, rfl, by first | rfl | trivial⟩ | exact ⟨rfl, (bcells fun _ => 0).toList, by rw [Array.toArray_toList], by simp⟩ | exact ⟨trivial, rfl, (bcells fun _ => 0).toList, by rw [Array.toArray_toList], by simp⟩
  · intro L v w hL hD hC hI
    refine ⟨fun _ => ?_, fun hw => by cases hw⟩
    refine hI.val_step hL (by simp) ?_
    rw [show readsOf plan_45_0 2 = [] from rfl]
    first | exact ⟨rfl, Ext.refl _⟩ | (go_simp; exact ⟨rfl, Ext.refl _⟩)
  intro L v1 W1 hL hI
  obtain ⟨b, cs, hb_b, lo_b, hr, hn, ho⟩ := hI.row_made ⟨some 0, 0, 43, none, fun cs => (Value.agg (List.toArray cs)) = .agg (pc (f) (g)), fun _ => True⟩ (by simp) 0 rfl (hL 0 (by decide))
  have R_b : RV W1 b 43 (fun u => u = .agg (pc (f) (g))) := ⟨cs, hr, ho (by intro s hs; cases hs)⟩
  clear hr hn ho
  obtain ⟨r, cs, hb_r, lo_r, hr, hn, ho⟩ := hI.row_made ⟨some 1, 0, 43, none, fun cs => cs.length = 64, fun _ => True⟩ (by simp) 1 rfl (hL 1 (by decide))
  have R_r : RL W1 r 43 64 := ⟨cs, hr, ho (by intro s hs; cases hs)⟩
  clear hr hn ho
  have ne_b_r : b ≠ r := fun e => hI.apart ⟨some 0, 0, 43, none, fun cs => (Value.agg (List.toArray cs)) = .agg (pc (f) (g)), fun _ => True⟩ (by simp) ⟨some 1, 0, 43, none, fun cs => cs.length = 64, fun _ => True⟩ (by simp) 0 1 rfl rfl (by decide) (hL 0 (by decide)) (hL 1 (by decide)) (by rw [hb_b, hb_r, e])
  have hx' : Ext w W1 := hx.trans hI.keep.to_ext
  have lt_b : b < W1.heap.size := R_b.lt
  have bs_b : w.heap.size ≤ b := Nat.le_trans hx.size lo_b
  have lt_r : r < W1.heap.size := R_r.lt
  have bs_r : w.heap.size ≤ r := Nat.le_trans hx.size lo_r
  have hs_3_0 : (v1 2) = .nilIface := hI.val 2 (hL 2 (by decide))
  clear hx hI hL hok L
  have hx := hx'
  clear hx'
  simp only [putP, Act.put, List.setIfInBounds_toArray, List.set_cons_zero, List.set_cons_succ, hb_b, hb_r, hs_3_0]
  go_upto_region 2 with (first | ((with_reducible refine wpl_P R_b ?_ (.tmp 1) ?_ ?_ ?_); rfl; rfl; rfl) | (go_at_call 29; (with_reducible refine (is_false h _).mono ?_); rintro e wq ⟨rfl, hxq⟩))
  replace R_b := R_b.ext hxq
  replace R_r := R_r.ext hxq
  replace lt_b := Nat.lt_of_lt_of_le lt_b hxq.size
  replace lt_r := Nat.lt_of_lt_of_le lt_r hxq.size
  replace hx := hx.trans hxq
  have hok : TrsOk [r] wq.heap.size ([⟨none, r, 43, some 2, fun cs => cs.length = 64, fun cs => (Value.agg (List.toArray cs)) = .agg (pc (fun _ => 0) (fun _ => 0))⟩] : List Trk) := ⟨by simp [R_r.lt], by simp, by simp, by simp⟩
  refine wp_region_text (Inv [r] (fun j u => match j with | 0 => u = .agg (pc (fun _ => 0) (fun _ => 0)) | 1 => u = .iface 30 (.int .i64 29) | 3 => u = .iface 30 (.int .i64 29) | _ => True) [⟨none, r, 43, some 2, fun cs => cs.length = 64, fun cs => (Value.agg (List.toArray cs)) = .agg (pc (fun _ => 0) (fun _ => 0))⟩] wq) plan_45_2 [(7, 0), (8, 1), (3, 3)] 17 rfl (by kernel_rfl) (Inv.start0 hok (by
      simp only [List.forall_mem_cons, List.not_mem_nil, false_implies, implies_true, and_true]
      exact fun _ => R_r)) ⟨?_, ?_, ?_, ?_, trivial⟩ ?_
  · intro L v w hL hD hC hI
    refine ⟨fun _ => ?_, fun hw => by cases hw⟩
    refine hI.val_step hL (by simp) ?_
    rw [show readsOf plan_45_2 0 = [] from rfl]
    exact give_zeroP rfl ⟨rfl, Ext.refl _⟩
  · intro L v w hL hD hC hI
    refine ⟨fun _ => ?_, fun hw => by cases hw⟩
    refine hI.val_step hL (by simp) ?_
    rw [show readsOf plan_45_2 1 = [] from rfl]
    go_simp
    exact ⟨rfl, Ext.refl _⟩
  · intro L v w hL hD hC hI
    refine ⟨fun _ => ?_, fun hw => by cases hw⟩
    have h0 : (v 0) = .agg (pc (fun _ => 0) (fun _ => 0)) := hI.val 0 (hD 0 (by decide))
    refine hI.store_step hok hL ⟨none, r, 43, some 2, fun cs => cs.length = 64, fun cs => (Value.agg (List.toArray cs)) = .agg (pc (fun _ => 0) (fun _ => 0))⟩ (by simp) rfl (by simp) (by intro k hk; cases hk) ?_
    intro n cs hb hR hold
    change n = r at hb
    subst hb
    rw [show readsOf plan_45_2 2 = [(7, 0)] from rfl]
    exact st_P hR hold _ _ rfl rfl h0 fun w' cs' hr he hk => ⟨trivial, hk, cs', hr, he⟩
  · intro L v w hL hD hC hI
    refine ⟨fun _ => ?_, fun hw => by cases hw⟩
    have h1 : (v 1) = .iface 30 (.int .i64 29) := hI.val 1 (hD 1 (by decide))
    refine hI.val_step hL (by simp) ?_
    rw [show readsOf plan_45_2 3 = [(8, 1)] from rfl]
    exact ⟨h1, Ext.refl _⟩
  intro L v2 W2 hL hI
  have N_r : RV W2 r 43 (fun u => u = .agg (pc (fun _ => 0) (fun _ => 0))) := hI.row_new ⟨none, r, 43, some 2, fun cs => cs.length = 64, fun cs => (Value.agg (List.toArray cs)) = .agg (pc (fun _ => 0) (fun _ => 0))⟩ (by simp) rfl 2 rfl (hL 2 (by decide))
  replace R_b := R_b.keep hI.keep (by simp [ne_b_r, Ne.symm ne_b_r])
  clear R_r
  have R_r := N_r
  clear N_r
  replace lt_b := Nat.lt_of_lt_of_le lt_b hI.keep.size
  replace lt_r := Nat.lt_of_lt_of_le lt_r hI.keep.size
  have hx' : Ext w W2 := Ext.keep_ hx hI.keep (by simp only [List.forall_mem_cons, List.not_mem_nil, false_implies, implies_true, and_true]; exact bs_r)
  have hs_3_2 : (v2 3) = .iface 30 (.int .i64 29) := hI.val 3 (hL 3 (by decide))
  clear hx hI hL hok L
  have hx := hx'
  clear hx'
  simp only [putP, Act.put, List.setIfInBounds_toArray, List.set_cons_zero, List.set_cons_succ, hs_3_2]
  go_wp2
  refine bodyPost_ret (results_P2 rfl _ R_r rfl) rfl ?_
  refine ⟨?_, hx⟩
  rfl
set_option maxRecDepth 20000 in
set_option maxHeartbeats 8000000 in
theorem add_on {f g k l : Nat → UInt8} {P Q : P7} (hPx : tf (V f) = P.x) (hPy : tf (V g) = P.y) (hQx : tf (V k) = Q.x) (hQy : tf (V l) = Q.y) (w : World) :
    Calls Try.prog 44 #[.agg (pc f g), .agg (pc k l)] w fun e w' => e = .returned (.tuple #[.agg (pc (fb (P.add Q).x) (fb (P.add Q).y)), .nilIface]) ∧ Ext w w' := by
  go_enter Try.func44, Try.ntmps44
  have hx : Ext w w := Ext.refl w
  go_upto_region 0 with fail
  have hok : TrsOk [] w.heap.size ([⟨some 0, 0, 43, none, fun cs => (Value.agg (List.toArray cs)) = .agg (pc (f) (g)), fun _ => True⟩, ⟨some 1, 0, 43, none, fun cs => (Value.agg (List.toArray cs)) = .agg (pc (k) (l)), fun _ => True⟩, ⟨some 2, 0, 43, none, fun cs => cs.length = 64, fun _ => True⟩] : List Trk) := ⟨by simp, by simp, by simp, by simp⟩
  refine wp_region_text (Inv [] (fun j u => match j with | 3 => u = .nilIface | _ => True) [⟨some 0, 0, 43, none, fun cs => (Value.agg (List.toArray cs)) = .agg (pc (f) (g)), fun _ => True⟩, ⟨some 1, 0, 43, none, fun cs => (Value.agg (List.toArray cs)) = .agg (pc (k) (l)), fun _ => True⟩, ⟨some 2, 0, 43, none, fun cs => cs.length = 64, fun _ => True⟩] w) plan_44_0 [(2, 0), (3, 1), (4, 2), (5, 3)] 22 rfl (by kernel_rfl) (Inv.start0 hok (by simp)) ⟨?_, ?_, ?_, ?_, trivial⟩ ?_
  · intro L v w hL hD hC hI
    refine ⟨fun _ => ?_, fun hw => by cases hw⟩
    refine hI.alloc_step hok hL ⟨some 0, 0, 43, none, fun cs => (Value.agg (List.toArray cs)) = .agg (pc (f) (g)), fun _ => True⟩ (by simp) rfl (by simp) (by intro s hs; cases hs) ?_
    rw [show readsOf plan_44_0 0 = [] from rfl]
    exact ⟨trivial, rfl, pcL f g, rfl, by show (Value.agg _ = Value.agg _); rfl⟩
  · intro L v w hL hD hC hI
    refine ⟨fun _ => ?_, fun hw => by cases hw⟩
    refine hI.alloc_step hok hL ⟨some 1, 0, 43, none, fun cs => (Value.agg (List.toArray cs)) = .agg (pc (k) (l)), fun _ => True⟩ (by simp) rfl (by simp) (by intro s hs; cases hs) ?_
    rw [show readsOf plan_44_0 1 = [] from rfl]
    exact ⟨trivial, rfl, pcL k l, rfl, by show (Value.agg _ = Value.agg _); rfl⟩
  · intro L v w hL hD hC hI
    refine ⟨fun _ => ?_, fun hw => by cases hw⟩
    refine hI.alloc_step hok hL ⟨some 2, 0, 43, none, fun cs => cs.length = 64, fun _ => True⟩ (by simp) rfl (by simp) (by intro s hs; cases hs) ?_
    rw [show readsOf plan_44_0 2 = [] from rfl]
    go_simp
    first | exact ⟨rfl, _, rfl, by first | rfl | trivial⟩ | exact ⟨trivial, rfl, _, rfl, by first | rfl | trivial⟩ | exact ⟨rfl, (bcells fun _ => 0).toList, by rw [Array.toArray_toList], by simp⟩ | exact ⟨trivial, rfl, (bcells fun _ => 0).toList, by rw [Array.toArray_toList], by simp⟩
  · intro L v w hL hD hC hI
    refine ⟨fun _ => ?_, fun hw => by cases hw⟩
    refine hI.val_step hL (by simp) ?_
    rw [show readsOf plan_44_0 3 = [] from rfl]
    first | exact ⟨rfl, Ext.refl _⟩ | (go_simp; exact ⟨rfl, Ext.refl _⟩)
  intro L v1 W1 hL hI
  obtain ⟨b, cs, hb_b, lo_b, hr, hn, ho⟩ := hI.row_made ⟨some 0, 0, 43, none, fun cs => (Value.agg (List.toArray cs)) = .agg (pc (f) (g)), fun _ => True⟩ (by simp) 0 rfl (hL 0 (by decide))
  have R_b : RV W1 b 43 (fun u => u = .agg (pc (f) (g))) := ⟨cs, hr, ho (by intro s hs; cases hs)⟩
  clear hr hn ho
  obtain ⟨c, cs, hb_c, lo_c, hr, hn, ho⟩ := hI.row_made ⟨some 1, 0, 43, none, fun cs => (Value.agg (List.toArray cs)) = .agg (pc (k) (l)), fun _ => True⟩ (by simp) 1 rfl (hL 1 (by decide))
  have R_c : RV W1 c 43 (fun u => u = .agg (pc (k) (l))) := ⟨cs, hr, ho (by intro s hs; cases hs)⟩
  clear hr hn ho
  obtain ⟨r, cs, hb_r, lo_r, hr, hn, ho⟩ := hI.row_made ⟨some 2, 0, 43, none, fun cs => cs.length = 64, fun _ => True⟩ (by simp) 2 rfl (hL 2 (by decide))
  have R_r : RL W1 r 43 64 := ⟨cs, hr, ho (by intro s hs; cases hs)⟩
  clear hr hn ho
  have ne_b_c : b ≠ c := fun e => hI.apart ⟨some 0, 0, 43, none, fun cs => (Value.agg (List.toArray cs)) = .agg (pc (f) (g)), fun _ => True⟩ (by simp) ⟨some 1, 0, 43, none, fun cs => (Value.agg (List.toArray cs)) = .agg (pc (k) (l)), fun _ => True⟩ (by simp) 0 1 rfl rfl (by decide) (hL 0 (by decide)) (hL 1 (by decide)) (by rw [hb_b, hb_c, e])
  have ne_b_r : b ≠ r := fun e => hI.apart ⟨some 0, 0, 43, none, fun cs => (Value.agg (List.toArray cs)) = .agg (pc (f) (g)), fun _ => True⟩ (by simp) ⟨some 2, 0, 43, none, fun cs => cs.length = 64, fun _ => True⟩ (by simp) 0 2 rfl rfl (by decide) (hL 0 (by decide)) (hL 2 (by decide)) (by rw [hb_b, hb_r, e])
  have ne_c_r : c ≠ r := fun e => hI.apart ⟨some 1, 0, 43, none, fun cs => (Value.agg (List.toArray cs)) = .agg (pc (k) (l)), fun _ => True⟩ (by simp) ⟨some 2, 0, 43, none, fun cs => cs.length = 64, fun _ => True⟩ (by simp) 1 2 rfl rfl (by decide) (hL 1 (by decide)) (hL 2 (by decide)) (by rw [hb_c, hb_r, e])
  have hx' : Ext w W1 := hx.trans hI.keep.to_ext
  have lt_b : b < W1.heap.size := R_b.lt
  have bs_b : w.heap.size ≤ b := Nat.le_trans hx.size lo_b
  have lt_c : c < W1.heap.size := R_c.lt
  have bs_c : w.heap.size ≤ c := Nat.le_trans hx.size lo_c
  have lt_r : r < W1.heap.size := R_r.lt
  have bs_r : w.heap.size ≤ r := Nat.le_trans hx.size lo_r
  have hs_5_0 : (v1 3) = .nilIface := hI.val 3 (hL 3 (by decide))
  clear hx hI hL hok L
  have hx := hx'
  clear hx'
  simp only [putP, Act.put, List.setIfInBounds_toArray, List.set_cons_zero, List.set_cons_succ, hb_b, hb_c, hb_r, hs_5_0]
  have h : C7.on (tf (V f)) (tf (V g)) := by rw [hPx, hPy]; exact P.on
  have h2 : C7.on (tf (V k)) (tf (V l)) := by rw [hQx, hQy]; exact Q.on
  go_upto_region 3 with (first | ((with_reducible refine wpl_P R_b ?_ (.tmp 2) ?_ ?_ ?_); rfl; rfl; rfl) | (go_at_call 29; (with_reducible refine (is_true h _).mono ?_); rintro e wp ⟨rfl, hxp⟩; replace R_c := R_c.ext hxp; have hxq := hxp) | ((with_reducible refine wpl_P R_c ?_ (.tmp 3) ?_ ?_ ?_); rfl; rfl; rfl) | (go_at_call 29; (with_reducible refine (is_true h2 _).mono ?_); rintro e wq ⟨rfl, hxq⟩; have hxq2 := hxq; replace hxq := hxp.trans hxq))
  replace R_b := R_b.ext hxq
  replace R_c := R_c.ext hxq2
  replace R_r := R_r.ext hxq
  replace lt_b := Nat.lt_of_lt_of_le lt_b hxq.size
  replace lt_c := Nat.lt_of_lt_of_le lt_c hxq.size
  replace lt_r := Nat.lt_of_lt_of_le lt_r hxq.size
  replace hx := hx.trans hxq
  have hok : TrsOk [r] wq.heap.size ([⟨none, r, 43, some 6, fun cs => cs.length = 64, fun cs => (Value.agg (List.toArray cs)) = .agg (pc (fb ((P).add (Q)).x) (fb ((P).add (Q)).y))⟩] : List Trk) := ⟨by simp [R_r.lt], by simp, by simp, by simp⟩
  refine wp_region_plan (Inv [r] (fun j u => match j with | 0 => u = .agg (pc (f) (g)) | 1 => isP u (P) | 2 => u = .agg (pc (k) (l)) | 3 => isP u (Q) | 4 => isP u ((P).add (Q)) | 5 => u = .agg (pc (fb ((P).add (Q)).x) (fb ((P).add (Q)).y)) | 7 => u = .nilIface | _ => True) [⟨none, r, 43, some 6, fun cs => cs.length = 64, fun cs => (Value.agg (List.toArray cs)) = .agg (pc (fb ((P).add (Q)).x) (fb ((P).add (Q)).y))⟩] wq) plan_44_3 [(16, 0), (17, 1), (18, 2), (19, 3), (20, 4), (21, 5), (5, 7)] 22 (by kernel_rfl) rfl (by kernel_rfl) (Inv.start hok (by
      simp only [List.forall_mem_cons, List.not_mem_nil, false_implies, implies_true, and_true]
      exact fun _ => R_r)) ⟨?_, ?_, ?_, ?_, ?_, ?_, ?_, ?_, trivial⟩ ?_
  · intro L v w hL hD hC hI
    refine ⟨fun _ => ?_, fun hw => by cases hw⟩
    refine hI.val_step hL (by simp) ?_
    rw [show readsOf plan_44_3 0 = [] from rfl]
    exact ld_P (R_b.keep hI.keep (by simp [ne_b_r, Ne.symm ne_b_r])) _ rfl rfl fun u hu => ⟨hu, Ext.refl _⟩
  · intro L v w hL hD hC hI
    refine ⟨fun _ => ?_, fun hw => by cases hw⟩
    have h0 : (v 0) = .agg (pc (f) (g)) := hI.val 0 (hD 0 (by decide))
    refine hI.val_step hL (by simp) ?_
    rw [show readsOf plan_44_3 1 = [(16, 0)] from rfl]
    refine give_call _ _ _ _ rfl rfl Try.func82 (by kernel_rfl) (by kernel_rfl) ?_
    refine Calls.mono (by have := cinP hPx hPy w; rwa [← h0] at this) ?_
    rintro e w' ⟨r, rfl, hr, hx⟩
    exact ⟨r, rfl, hr, hx⟩
  · intro L v w hL hD hC hI
    refine ⟨fun _ => ?_, fun hw => by cases hw⟩
    refine hI.val_step hL (by simp) ?_
    rw [show readsOf plan_44_3 2 = [] from rfl]
    exact ld_P (R_c.keep hI.keep (by simp [ne_c_r, Ne.symm ne_c_r])) _ rfl rfl fun u hu => ⟨hu, Ext.refl _⟩
  · intro L v w hL hD hC hI
    refine ⟨fun _ => ?_, fun hw => by cases hw⟩
    have h2 : (v 2) = .agg (pc (k) (l)) := hI.val 2 (hD 2 (by decide))
    refine hI.val_step hL (by simp) ?_
    rw [show readsOf plan_44_3 3 = [(18, 2)] from rfl]
    refine give_call _ _ _ _ rfl rfl Try.func82 (by kernel_rfl) (by kernel_rfl) ?_
    refine Calls.mono (by have := cinP hQx hQy w; rwa [← h2] at this) ?_
    rintro e w' ⟨r, rfl, hr, hx⟩
    exact ⟨r, rfl, hr, hx⟩
  · intro L v w hL hD hC hI
    refine ⟨fun _ => ?_, fun hw => by cases hw⟩
    have h1 : isP (v 1) (P) := hI.val 1 (hD 1 (by decide))
    have h3 : isP (v 3) (Q) := hI.val 3 (hD 3 (by decide))
    refine hI.val_step hL (by simp) ?_
    rw [show readsOf plan_44_3 4 = [(17, 1), (19, 3)] from rfl]
    refine give_call _ _ _ _ rfl rfl Try.func83 (by kernel_rfl) (by kernel_rfl) ?_
    refine Calls.mono (wplus_any h1 h3 w) ?_
    rintro e w' ⟨r, rfl, hr, hx⟩
    exact ⟨r, rfl, hr, hx⟩
  · intro L v w hL hD hC hI
    refine ⟨fun _ => ?_, fun hw => by cases hw⟩
    have h4 : isP (v 4) ((P).add (Q)) := hI.val 4 (hD 4 (by decide))
    refine hI.val_step hL (by simp) ?_
    rw [show readsOf plan_44_3 5 = [(20, 4)] from rfl]
    refine give_call _ _ _ _ rfl rfl Try.func84 (by kernel_rfl) (by kernel_rfl) ?_
    refine Calls.mono (cout_any h4 w) ?_
    rintro e w' ⟨rfl, hx⟩
    exact ⟨_, rfl, rfl, hx⟩
  · intro L v w hL hD hC hI
    refine ⟨fun _ => ?_, fun hw => by cases hw⟩
    have h5 : (v 5) = .agg (pc (fb ((P).add (Q)).x) (fb ((P).add (Q)).y)) := hI.val 5 (hD 5 (by decide))
    refine hI.store_step hok hL ⟨none, r, 43, some 6, fun cs => cs.length = 64, fun cs => (Value.agg (List.toArray cs)) = .agg (pc (fb ((P).add (Q)).x) (fb ((P).add (Q)).y))⟩ (by simp) rfl (by simp) (by intro k hk; cases hk) ?_
    intro n cs hb hR hold
    change n = r at hb
    subst hb
    rw [show readsOf plan_44_3 6 = [(21, 5)] from rfl]
    exact st_P hR hold _ _ rfl rfl h5 fun w' cs' hr he hk => ⟨trivial, hk, cs', hr, he⟩
  · intro L v w hL hD hC hI
    refine ⟨fun _ => ?_, fun hw => by cases hw⟩
    refine hI.val_step hL (by simp) ?_
    rw [show readsOf plan_44_3 7 = [] from rfl]
    first | exact ⟨rfl, Ext.refl _⟩ | (go_simp; exact ⟨rfl, Ext.refl _⟩)
  intro L v2 W2 hL hI
  have N_r : RV W2 r 43 (fun u => u = .agg (pc (fb ((P).add (Q)).x) (fb ((P).add (Q)).y))) := hI.row_new ⟨none, r, 43, some 6, fun cs => cs.length = 64, fun cs => (Value.agg (List.toArray cs)) = .agg (pc (fb ((P).add (Q)).x) (fb ((P).add (Q)).y))⟩ (by simp) rfl 6 rfl (hL 6 (by decide))
  replace R_b := R_b.keep hI.keep (by simp [ne_b_r, Ne.symm ne_b_r])
  replace R_c := R_c.keep hI.keep (by simp [ne_c_r, Ne.symm ne_c_r])
  clear R_r
  have R_r := N_r
  clear N_r
  replace lt_b := Nat.lt_of_lt_of_le lt_b hI.keep.size
  replace lt_c := Nat.lt_of_lt_of_le lt_c hI.keep.size
  replace lt_r := Nat.lt_of_lt_of_le lt_r hI.keep.size
  have hx' : Ext w W2 := Ext.keep_ hx hI.keep (by simp only [List.forall_mem_cons, List.not_mem_nil, false_implies, implies_true, and_true]; exact bs_r)
  have hs_5_3 : (v2 7) = .nilIface := hI.val 7 (hL 7 (by decide))
  clear hx hI hL hok L
  have hx := hx'
  clear hx'
  simp only [putP, Act.put, List.setIfInBounds_toArray, List.set_cons_zero, List.set_cons_succ, hs_5_3]
  go_wp2
  refine bodyPost_ret (results_P2 rfl _ R_r rfl) rfl ?_
  refine ⟨?_, hx⟩
  rfl
set_option maxRecDepth 20000 in
set_option maxHeartbeats 8000000 in
theorem add_off1 {f g k l : Nat → UInt8} (h : ¬ C7.on (tf (V f)) (tf (V g))) (w : World) :
    Calls Try.prog 44 #[.agg (pc f g), .agg (pc k l)] w fun e w' => e = .returned (.tuple #[.agg (pc (fun _ => 0) (fun _ => 0)), errPoint]) ∧ Ext w w' := by
  go_enter Try.func44, Try.ntmps44
  have hx : Ext w w := Ext.refl w
  go_upto_region 0 with fail
  have hok : TrsOk [] w.heap.size ([⟨some 0, 0, 43, none, fun cs => (Value.agg (List.toArray cs)) = .agg (pc (f) (g)), fun _ => True⟩, ⟨some 1, 0, 43, none, fun cs => (Value.agg (List.toArray cs)) = .agg (pc (k) (l)), fun _ => True⟩, ⟨some 2, 0, 43, none, fun cs => cs.length = 64, fun _ => True⟩] : List Trk) := ⟨by simp, by simp, by simp, by simp⟩
  refine wp_region_text (Inv [] (fun j u => match j with | 3 => u = .nilIface | _ => True) [⟨some 0, 0, 43, none, fun cs => (Value.agg (List.toArray cs)) = .agg (pc (f) (g)), fun _ => True⟩, ⟨some 1, 0, 43, none, fun cs => (Value.agg (List.toArray cs)) = .agg (pc (k) (l)), fun _ => True⟩, ⟨some 2, 0, 43, none, fun cs => cs.length = 64, fun _ => True⟩] w) plan_44_0 [(2, 0), (3, 1), (4, 2), (5, 3)] 22 rfl (by kernel_rfl) (Inv.start0 hok (by simp)) ⟨?_, ?_, ?_, ?_, trivial⟩ ?_
  · intro L v w hL hD hC hI
    refine ⟨fun _ => ?_, fun hw => by cases hw⟩
    refine hI.alloc_step hok hL ⟨some 0, 0, 43, none, fun cs => (Value.agg (List.toArray cs)) = .agg (pc (f) (g)), fun _ => True⟩ (by simp) rfl (by simp) (by intro s hs; cases hs) ?_
    rw [show readsOf plan_44_0 0 = [] from rfl]
    exact ⟨trivial, rfl, pcL f g, rfl, by show (Value.agg _ = Value.agg _); rfl⟩
  · intro L v w hL hD hC hI
    refine ⟨fun _ => ?_, fun hw => by cases hw⟩
    refine hI.alloc_step hok hL ⟨some 1, 0, 43, none, fun cs => (Value.agg (List.toArray cs)) = .agg (pc (k) (l)), fun _ => True⟩ (by simp) rfl (by simp) (by intro s hs; cases hs) ?_
    rw [show readsOf plan_44_0 1 = [] from rfl]
    exact ⟨trivial, rfl, pcL k l, rfl, by show (Value.agg _ = Value.agg _); rfl⟩
  · intro L v w hL hD hC hI
    refine ⟨fun _ => ?_, fun hw => by cases hw⟩
    refine hI.alloc_step hok hL ⟨some 2, 0, 43, none, fun cs => cs.length = 64, fun _ => True⟩ (by simp) rfl (by simp) (by intro s hs; cases hs) ?_
    rw [show readsOf plan_44_0 2 = [] from rfl]
    go_simp
    first | exact ⟨rfl, _, rfl, by first | rfl | trivial⟩ | exact ⟨trivial, rfl, _, rfl, by first | rfl | trivial⟩ | exact ⟨rfl, (bcells fun _ => 0).toList, by rw [Array.toArray_toList], by simp⟩ | exact ⟨trivial, rfl, (bcells fun _ => 0).toList, by rw [Array.toArray_toList], by simp⟩
  · intro L v w hL hD hC hI
    refine ⟨fun _ => ?_, fun hw => by cases hw⟩
    refine hI.val_step hL (by simp) ?_
    rw [show readsOf plan_44_0 3 = [] from rfl]
    first | exact ⟨rfl, Ext.refl _⟩ | (go_simp; exact ⟨rfl, Ext.refl _⟩)
  intro L v1 W1 hL hI
  obtain ⟨b, cs, hb_b, lo_b, hr, hn, ho⟩ := hI.row_made ⟨some 0, 0, 43, none, fun cs => (Value.agg (List.toArray cs)) = .agg (pc (f) (g)), fun _ => True⟩ (by simp) 0 rfl (hL 0 (by decide))
  have R_b : RV W1 b 43 (fun u => u = .agg (pc (f) (g))) := ⟨cs, hr, ho (by intro s hs; cases hs)⟩
  clear hr hn ho
  obtain ⟨c, cs, hb_c, lo_c, hr, hn, ho⟩ := hI.row_made ⟨some 1, 0, 43, none, fun cs => (Value.agg (List.toArray cs)) = .agg (pc (k) (l)), fun _ => True⟩ (by simp) 1 rfl (hL 1 (by decide))
  have R_c : RV W1 c 43 (fun u => u = .agg (pc (k) (l))) := ⟨cs, hr, ho (by intro s hs; cases hs)⟩
  clear hr hn ho
  obtain ⟨r, cs, hb_r, lo_r, hr, hn, ho⟩ := hI.row_made ⟨some 2, 0, 43, none, fun cs => cs.length = 64, fun _ => True⟩ (by simp) 2 rfl (hL 2 (by decide))
  have R_r : RL W1 r 43 64 := ⟨cs, hr, ho (by intro s hs; cases hs)⟩
  clear hr hn ho
  have ne_b_c : b ≠ c := fun e => hI.apart ⟨some 0, 0, 43, none, fun cs => (Value.agg (List.toArray cs)) = .agg (pc (f) (g)), fun _ => True⟩ (by simp) ⟨some 1, 0, 43, none, fun cs => (Value.agg (List.toArray cs)) = .agg (pc (k) (l)), fun _ => True⟩ (by simp) 0 1 rfl rfl (by decide) (hL 0 (by decide)) (hL 1 (by decide)) (by rw [hb_b, hb_c, e])
  have ne_b_r : b ≠ r := fun e => hI.apart ⟨some 0, 0, 43, none, fun cs => (Value.agg (List.toArray cs)) = .agg (pc (f) (g)), fun _ => True⟩ (by simp) ⟨some 2, 0, 43, none, fun cs => cs.length = 64, fun _ => True⟩ (by simp) 0 2 rfl rfl (by decide) (hL 0 (by decide)) (hL 2 (by decide)) (by rw [hb_b, hb_r, e])
  have ne_c_r : c ≠ r := fun e => hI.apart ⟨some 1, 0, 43, none, fun cs => (Value.agg (List.toArray cs)) = .agg (pc (k) (l)), fun _ => True⟩ (by simp) ⟨some 2, 0, 43, none, fun cs => cs.length = 64, fun _ => True⟩ (by simp) 1 2 rfl rfl (by decide) (hL 1 (by decide)) (hL 2 (by decide)) (by rw [hb_c, hb_r, e])
  have hx' : Ext w W1 := hx.trans hI.keep.to_ext
  have lt_b : b < W1.heap.size := R_b.lt
  have bs_b : w.heap.size ≤ b := Nat.le_trans hx.size lo_b
  have lt_c : c < W1.heap.size := R_c.lt
  have bs_c : w.heap.size ≤ c := Nat.le_trans hx.size lo_c
  have lt_r : r < W1.heap.size := R_r.lt
  have bs_r : w.heap.size ≤ r := Nat.le_trans hx.size lo_r
  have hs_5_0 : (v1 3) = .nilIface := hI.val 3 (hL 3 (by decide))
  clear hx hI hL hok L
  have hx := hx'
  clear hx'
  simp only [putP, Act.put, List.setIfInBounds_toArray, List.set_cons_zero, List.set_cons_succ, hb_b, hb_c, hb_r, hs_5_0]
  go_upto_region 2 with (first | ((with_reducible refine wpl_P R_b ?_ (.tmp 2) ?_ ?_ ?_); rfl; rfl; rfl) | (go_at_call 29; (with_reducible refine (is_false h _).mono ?_); rintro e wp ⟨rfl, hxp⟩; replace R_c := R_c.ext hxp; have hxq := hxp))
  replace R_b := R_b.ext hxq
  replace R_r := R_r.ext hxq
  replace lt_b := Nat.lt_of_lt_of_le lt_b hxq.size
  replace lt_c := Nat.lt_of_lt_of_le lt_c hxq.size
  replace lt_r := Nat.lt_of_lt_of_le lt_r hxq.size
  replace hx := hx.trans hxq
  have hok : TrsOk [r] wp.heap.size ([⟨none, r, 43, some 2, fun cs => cs.length = 64, fun cs => (Value.agg (List.toArray cs)) = .agg (pc (fun _ => 0) (fun _ => 0))⟩] : List Trk) := ⟨by simp [R_r.lt], by simp, by simp, by simp⟩
  refine wp_region_text (Inv [r] (fun j u => match j with | 0 => u = .agg (pc (fun _ => 0) (fun _ => 0)) | 1 => u = .iface 30 (.int .i64 29) | 3 => u = .iface 30 (.int .i64 29) | _ => True) [⟨none, r, 43, some 2, fun cs => cs.length = 64, fun cs => (Value.agg (List.toArray cs)) = .agg (pc (fun _ => 0) (fun _ => 0))⟩] wp) plan_44_2 [(14, 0), (15, 1), (5, 3)] 22 rfl (by kernel_rfl) (Inv.start0 hok (by
      simp only [List.forall_mem_cons, List.not_mem_nil, false_implies, implies_true, and_true]
      exact fun _ => R_r)) ⟨?_, ?_, ?_, ?_, trivial⟩ ?_
  · intro L v w hL hD hC hI
    refine ⟨fun _ => ?_, fun hw => by cases hw⟩
    refine hI.val_step hL (by simp) ?_
    rw [show readsOf plan_44_2 0 = [] from rfl]
    exact give_zeroP rfl ⟨rfl, Ext.refl _⟩
  · intro L v w hL hD hC hI
    refine ⟨fun _ => ?_, fun hw => by cases hw⟩
    refine hI.val_step hL (by simp) ?_
    rw [show readsOf plan_44_2 1 = [] from rfl]
    go_simp
    exact ⟨rfl, Ext.refl _⟩
  · intro L v w hL hD hC hI
    refine ⟨fun _ => ?_, fun hw => by cases hw⟩
    have h0 : (v 0) = .agg (pc (fun _ => 0) (fun _ => 0)) := hI.val 0 (hD 0 (by decide))
    refine hI.store_step hok hL ⟨none, r, 43, some 2, fun cs => cs.length = 64, fun cs => (Value.agg (List.toArray cs)) = .agg (pc (fun _ => 0) (fun _ => 0))⟩ (by simp) rfl (by simp) (by intro k hk; cases hk) ?_
    intro n cs hb hR hold
    change n = r at hb
    subst hb
    rw [show readsOf plan_44_2 2 = [(14, 0)] from rfl]
    exact st_P hR hold _ _ rfl rfl h0 fun w' cs' hr he hk => ⟨trivial, hk, cs', hr, he⟩
  · intro L v w hL hD hC hI
    refine ⟨fun _ => ?_, fun hw => by cases hw⟩
    have h1 : (v 1) = .iface 30 (.int .i64 29) := hI.val 1 (hD 1 (by decide))
    refine hI.val_step hL (by simp) ?_
    rw [show readsOf plan_44_2 3 = [(15, 1)] from rfl]
    exact ⟨h1, Ext.refl _⟩
  intro L v2 W2 hL hI
  have N_r : RV W2 r 43 (fun u => u = .agg (pc (fun _ => 0) (fun _ => 0))) := hI.row_new ⟨none, r, 43, some 2, fun cs => cs.length = 64, fun cs => (Value.agg (List.toArray cs)) = .agg (pc (fun _ => 0) (fun _ => 0))⟩ (by simp) rfl 2 rfl (hL 2 (by decide))
  replace R_b := R_b.keep hI.keep (by simp [ne_b_r, Ne.symm ne_b_r])
  replace R_c := R_c.keep hI.keep (by simp [ne_c_r, Ne.symm ne_c_r])
  clear R_r
  have R_r := N_r
  clear N_r
  replace lt_b := Nat.lt_of_lt_of_le lt_b hI.keep.size
  replace lt_c := Nat.lt_of_lt_of_le lt_c hI.keep.size
  replace lt_r := Nat.lt_of_lt_of_le lt_r hI.keep.size
  have hx' : Ext w W2 := Ext.keep_ hx hI.keep (by simp only [List.forall_mem_cons, List.not_mem_nil, false_implies, implies_true, and_true]; exact bs_r)
  have hs_5_2 : (v2 3) = .iface 30 (.int .i64 29) := hI.val 3 (hL 3 (by decide))
  clear hx hI hL hok L
  have hx := hx'
  clear hx'
  simp only [putP, Act.put, List.setIfInBounds_toArray, List.set_cons_zero, List.set_cons_succ, hs_5_2]
  go_wp2
  refine bodyPost_ret (results_P2 rfl _ R_r rfl) rfl ?_
  refine ⟨?_, hx⟩
  rfl
set_option maxRecDepth 20000 in
set_option maxHeartbeats 8000000 in
theorem add_off2 {f g k l : Nat → UInt8} (h : C7.on (tf (V f)) (tf (V g))) (h2 : ¬ C7.on (tf (V k)) (tf (V l))) (w : World) :
    Calls Try.prog 44 #[.agg (pc f g), .agg (pc k l)] w fun e w' => e = .returned (.tuple #[.agg (pc (fun _ => 0) (fun _ => 0)), errPoint]) ∧ Ext w w' := by
  go_enter Try.func44, Try.ntmps44
  have hx : Ext w w := Ext.refl w
  go_upto_region 0 with fail
  have hok : TrsOk [] w.heap.size ([⟨some 0, 0, 43, none, fun cs => (Value.agg (List.toArray cs)) = .agg (pc (f) (g)), fun _ => True⟩, ⟨some 1, 0, 43, none, fun cs => (Value.agg (List.toArray cs)) = .agg (pc (k) (l)), fun _ => True⟩, ⟨some 2, 0, 43, none, fun cs => cs.length = 64, fun _ => True⟩] : List Trk) := ⟨by simp, by simp, by simp, by simp⟩
  refine wp_region_text (Inv [] (fun j u => match j with | 3 => u = .nilIface | _ => True) [⟨some 0, 0, 43, none, fun cs => (Value.agg (List.toArray cs)) = .agg (pc (f) (g)), fun _ => True⟩, ⟨some 1, 0, 43, none, fun cs => (Value.agg (List.toArray cs)) = .agg (pc (k) (l)), fun _ => True⟩, ⟨some 2, 0, 43, none, fun cs => cs.length = 64, fun _ => True⟩] w) plan_44_0 [(2, 0), (3, 1), (4, 2), (5, 3)] 22 rfl (by kernel_rfl) (Inv.start0 hok (by simp)) ⟨?_, ?_, ?_, ?_, trivial⟩ ?_
  · intro L v w hL hD hC hI
    refine ⟨fun _ => ?_, fun hw => by cases hw⟩
    refine hI.alloc_step hok hL ⟨some 0, 0, 43, none, fun cs => (Value.agg (List.toArray cs)) = .agg (pc (f) (g)), fun _ => True⟩ (by simp) rfl (by simp) (by intro s hs; cases hs) ?_
    rw [show readsOf plan_44_0 0 = [] from rfl]
    exact ⟨trivial, rfl, pcL f g, rfl, by show (Value.agg _ = Value.agg _); rfl⟩
  · intro L v w hL hD hC hI
    refine ⟨fun _ => ?_, fun hw => by cases hw⟩
    refine hI.alloc_step hok hL ⟨some 1, 0, 43, none, fun cs => (Value.agg (List.toArray cs)) = .agg (pc (k) (l)), fun _ => True⟩ (by simp) rfl (by simp) (by intro s hs; cases hs) ?_
    rw [show readsOf plan_44_0 1 = [] from rfl]
    exact ⟨trivial, rfl, pcL k l, rfl, by show (Value.agg _ = Value.agg _); rfl⟩
  · intro L v w hL hD hC hI
    refine ⟨fun _ => ?_, fun hw => by cases hw⟩
    refine hI.alloc_step hok hL ⟨some 2, 0, 43, none, fun cs => cs.length = 64, fun _ => True⟩ (by simp) rfl (by simp) (by intro s hs; cases hs) ?_
    rw [show readsOf plan_44_0 2 = [] from rfl]
    go_simp
    first | exact ⟨rfl, _, rfl, by first | rfl | trivial⟩ | exact ⟨trivial, rfl, _, rfl, by first | rfl | trivial⟩ | exact ⟨rfl, (bcells fun _ => 0).toList, by rw [Array.toArray_toList], by simp⟩ | exact ⟨trivial, rfl, (bcells fun _ => 0).toList, by rw [Array.toArray_toList], by simp⟩
  · intro L v w hL hD hC hI
    refine ⟨fun _ => ?_, fun hw => by cases hw⟩
    refine hI.val_step hL (by simp) ?_
    rw [show readsOf plan_44_0 3 = [] from rfl]
    first | exact ⟨rfl, Ext.refl _⟩ | (go_simp; exact ⟨rfl, Ext.refl _⟩)
  intro L v1 W1 hL hI
  obtain ⟨b, cs, hb_b, lo_b, hr, hn, ho⟩ := hI.row_made ⟨some 0, 0, 43, none, fun cs => (Value.agg (List.toArray cs)) = .agg (pc (f) (g)), fun _ => True⟩ (by simp) 0 rfl (hL 0 (by decide))
  have R_b : RV W1 b 43 (fun u => u = .agg (pc (f) (g))) := ⟨cs, hr, ho (by intro s hs; cases hs)⟩
  clear hr hn ho
  obtain ⟨c, cs, hb_c, lo_c, hr, hn, ho⟩ := hI.row_made ⟨some 1, 0, 43, none, fun cs => (Value.agg (List.toArray cs)) = .agg (pc (k) (l)), fun _ => True⟩ (by simp) 1 rfl (hL 1 (by decide))
  have R_c : RV W1 c 43 (fun u => u = .agg (pc (k) (l))) := ⟨cs, hr, ho (by intro s hs; cases hs)⟩
  clear hr hn ho
  obtain ⟨r, cs, hb_r, lo_r, hr, hn, ho⟩ := hI.row_made ⟨some 2, 0, 43, none, fun cs => cs.length = 64, fun _ => True⟩ (by simp) 2 rfl (hL 2 (by decide))
  have R_r : RL W1 r 43 64 := ⟨cs, hr, ho (by intro s hs; cases hs)⟩
  clear hr hn ho
  have ne_b_c : b ≠ c := fun e => hI.apart ⟨some 0, 0, 43, none, fun cs => (Value.agg (List.toArray cs)) = .agg (pc (f) (g)), fun _ => True⟩ (by simp) ⟨some 1, 0, 43, none, fun cs => (Value.agg (List.toArray cs)) = .agg (pc (k) (l)), fun _ => True⟩ (by simp) 0 1 rfl rfl (by decide) (hL 0 (by decide)) (hL 1 (by decide)) (by rw [hb_b, hb_c, e])
  have ne_b_r : b ≠ r := fun e => hI.apart ⟨some 0, 0, 43, none, fun cs => (Value.agg (List.toArray cs)) = .agg (pc (f) (g)), fun _ => True⟩ (by simp) ⟨some 2, 0, 43, none, fun cs => cs.length = 64, fun _ => True⟩ (by simp) 0 2 rfl rfl (by decide) (hL 0 (by decide)) (hL 2 (by decide)) (by rw [hb_b, hb_r, e])
  have ne_c_r : c ≠ r := fun e => hI.apart ⟨some 1, 0, 43, none, fun cs => (Value.agg (List.toArray cs)) = .agg (pc (k) (l)), fun _ => True⟩ (by simp) ⟨some 2, 0, 43, none, fun cs => cs.length = 64, fun _ => True⟩ (by simp) 1 2 rfl rfl (by decide) (hL 1 (by decide)) (hL 2 (by decide)) (by rw [hb_c, hb_r, e])
  have hx' : Ext w W1 := hx.trans hI.keep.to_ext
  have lt_b : b < W1.heap.size := R_b.lt
  have bs_b : w.heap.size ≤ b := Nat.le_trans hx.size lo_b
  have lt_c : c < W1.heap.size := R_c.lt
  have bs_c : w.heap.size ≤ c := Nat.le_trans hx.size lo_c
  have lt_r : r < W1.heap.size := R_r.lt
  have bs_r : w.heap.size ≤ r := Nat.le_trans hx.size lo_r
  have hs_5_0 : (v1 3) = .nilIface := hI.val 3 (hL 3 (by decide))
  clear hx hI hL hok L
  have hx := hx'
  clear hx'
  simp only [putP, Act.put, List.setIfInBounds_toArray, List.set_cons_zero, List.set_cons_succ, hb_b, hb_c, hb_r, hs_5_0]
  go_upto_region 2 with (first | ((with_reducible refine wpl_P R_b ?_ (.tmp 2) ?_ ?_ ?_); rfl; rfl; rfl) | (go_at_call 29; (with_reducible refine (is_true h _).mono ?_); rintro e wp ⟨rfl, hxp⟩; replace R_c := R_c.ext hxp; have hxq := hxp) | ((with_reducible refine wpl_P R_c ?_ (.tmp 3) ?_ ?_ ?_); rfl; rfl; rfl) | (go_at_call 29; (with_reducible refine (is_false h2 _).mono ?_); rintro e wq ⟨rfl, hxq⟩; have hxq2 := hxq; replace hxq := hxp.trans hxq))
  replace R_b := R_b.ext hxq
  replace R_c := R_c.ext hxq2
  replace R_r := R_r.ext hxq
  replace lt_b := Nat.lt_of_lt_of_le lt_b hxq.size
  replace lt_c := Nat.lt_of_lt_of_le lt_c hxq.size
  replace lt_r := Nat.lt_of_lt_of_le lt_r hxq.size
  replace hx := hx.trans hxq
  have hok : TrsOk [r] wq.heap.size ([⟨none, r, 43, some 2, fun cs => cs.length = 64, fun cs => (Value.agg (List.toArray cs)) = .agg (pc (fun _ => 0) (fun _ => 0))⟩] : List Trk) := ⟨by simp [R_r.lt], by simp, by simp, by simp⟩
  refine wp_region_text (Inv [r] (fun j u => match j with | 0 => u = .agg (pc (fun _ => 0) (fun _ => 0)) | 1 => u = .iface 30 (.int .i64 29) | 3 => u = .iface 30 (.int .i64 29) | _ => True) [⟨none, r, 43, some 2, fun cs => cs.length = 64, fun cs => (Value.agg (List.toArray cs)) = .agg (pc (fun _ => 0) (fun _ => 0))⟩] wq) plan_44_2 [(14, 0), (15, 1), (5, 3)] 22 rfl (by kernel_rfl) (Inv.start0 hok (by
      simp only [List.forall_mem_cons, List.not_mem_nil, false_implies, implies_true, and_true]
      exact fun _ => R_r)) ⟨?_, ?_, ?_, ?_, trivial⟩ ?_
  · intro L v w hL hD hC hI
    refine ⟨fun _ => ?_, fun hw => by cases hw⟩
    refine hI.val_step hL (by simp) ?_
    rw [show readsOf plan_44_2 0 = [] from rfl]
    exact give_zeroP rfl ⟨rfl, Ext.refl _⟩
  · intro L v w hL hD hC hI
    refine ⟨fun _ => ?_, fun hw => by cases hw⟩
    refine hI.val_step hL (by simp) ?_
    rw [show readsOf plan_44_2 1 = [] from rfl]
    go_simp
    exact ⟨rfl, Ext.refl _⟩
  · intro L v w hL hD hC hI
    refine ⟨fun _ => ?_, fun hw => by cases hw⟩
    have h0 : (v 0) = .agg (pc (fun _ => 0) (fun _ => 0)) := hI.val 0 (hD 0 (by decide))
    refine hI.store_step hok hL ⟨none, r, 43, some 2, fun cs => cs.length = 64, fun cs => (Value.agg (List.toArray cs)) = .agg (pc (fun _ => 0) (fun _ => 0))⟩ (by simp) rfl (by simp) (by intro k hk; cases hk) ?_
    intro n cs hb hR hold
    change n = r at hb
    subst hb
    rw [show readsOf plan_44_2 2 = [(14, 0)] from rfl]
    exact st_P hR hold _ _ rfl rfl h0 fun w' cs' hr he hk => ⟨trivial, hk, cs', hr, he⟩
  · intro L v w hL hD hC hI
    refine ⟨fun _ => ?_, fun hw => by cases hw⟩
    have h1 : (v 1) = .iface 30 (.int .i64 29) := hI.val 1 (hD 1 (by decide))
    refine hI.val_step hL (by simp) ?_
    rw [show readsOf plan_44_2 3 = [(15, 1)] from rfl]
    exact ⟨h1, Ext.refl _⟩
  intro L v2 W2 hL hI
  have N_r : RV W2 r 43 (fun u => u = .agg (pc (fun _ => 0) (fun _ => 0))) := hI.row_new ⟨none, r, 43, some 2, fun cs => cs.length = 64, fun cs => (Value.agg (List.toArray cs)) = .agg (pc (fun _ => 0) (fun _ => 0))⟩ (by simp) rfl 2 rfl (hL 2 (by decide))
  replace R_b := R_b.keep hI.keep (by simp [ne_b_r, Ne.symm ne_b_r])
  replace R_c := R_c.keep hI.keep (by simp [ne_c_r, Ne.symm ne_c_r])
  clear R_r
  have R_r := N_r
  clear N_r
  replace lt_b := Nat.lt_of_lt_of_le lt_b hI.keep.size
  replace lt_c := Nat.lt_of_lt_of_le lt_c hI.keep.size
  replace lt_r := Nat.lt_of_lt_of_le lt_r hI.keep.size
  have hx' : Ext w W2 := Ext.keep_ hx hI.keep (by simp only [List.forall_mem_cons, List.not_mem_nil, false_implies, implies_true, and_true]; exact bs_r)
  have hs_5_2 : (v2 3) = .iface 30 (.int .i64 29) := hI.val 3 (hL 3 (by decide))
  clear hx hI hL hok L
  have hx := hx'
  clear hx'
  simp only [putP, Act.put, List.setIfInBounds_toArray, List.set_cons_zero, List.set_cons_succ, hs_5_2]
  go_wp2
  refine bodyPost_ret (results_P2 rfl _ R_r rfl) rfl ?_
  refine ⟨?_, hx⟩
  rfl
end Go.Proofs.Ytndohjgfjbopnaa
