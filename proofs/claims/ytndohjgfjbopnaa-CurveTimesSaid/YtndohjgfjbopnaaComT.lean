/-
  Times of the curve where it is refused.
-/
import Derived.Test.YtndohjgfjbopnaaCom
import Derived.Test.YtndohjgfjbopnaaTim
set_option linter.unusedSimpArgs false
set_option linter.unusedVariables false
namespace Go.Proofs.Ytndohjgfjbopnaa
open Go.RowKit Go.Cv Go.Cv.Pr Go.Cv.Grp
theorem rd_of_RV {w : World} {b : Nat} {T : TypeId} {f : Nat → UInt8} (h : RV w b T (fun u => u = .agg (bcells f))) : Rd w (some ⟨b, 0, none⟩) ((blist f).map bv) := by
  intro k v hv
  have hk : k < 32 := by
    have := (List.getElem?_eq_some_iff.1 hv).1
    simpa [blist] using this
  refine ⟨_, rfl, ?_⟩
  rw [show (Addr.add ⟨b, 0, none⟩ k) = ⟨b, k, none⟩ from by unfold Addr.add; split <;> simp_all]
  rw [h.byte hk, ← hv]
  simp [blist, hk]
def plan_50o_0 : List Plan := [⟨[], []⟩, ⟨[], []⟩, ⟨[], []⟩, ⟨[], []⟩]
def plan_50o_2 : List Plan := [⟨[], []⟩, ⟨[], []⟩, ⟨[0], [(15, 0)]⟩, ⟨[0, 1, 2], [(16, 1)]⟩]
set_option maxRecDepth 20000 in
set_option maxHeartbeats 8000000 in
theorem times_off {f g k : Nat → UInt8} (h : ¬ C7.on (tf (V f)) (tf (V g))) (w : World) :
    Calls Try.prog 50 #[.agg (bcells k), .agg (pc f g)] w fun e w' => e = .returned (.tuple #[.agg (pc (fun _ => 0) (fun _ => 0)), errPoint]) ∧ Ext w w' := by
  go_enter Try.func50, Try.ntmps50
  have hx : Ext w w := Ext.refl w
  go_upto_region 0 with fail
  have hok : TrsOk [] w.heap.size ([⟨some 0, 0, 22, none, fun cs => (Value.agg (List.toArray cs)) = .agg (bcells (k)), fun _ => True⟩, ⟨some 1, 0, 43, none, fun cs => (Value.agg (List.toArray cs)) = .agg (pc (f) (g)), fun _ => True⟩, ⟨some 2, 0, 43, none, fun cs => cs.length = 64, fun _ => True⟩] : List Trk) := ⟨by simp, by simp, by simp, by simp⟩
  refine wp_region_text (Inv [] (fun j u => match j with | 3 => u = .nilIface | _ => True) [⟨some 0, 0, 22, none, fun cs => (Value.agg (List.toArray cs)) = .agg (bcells (k)), fun _ => True⟩, ⟨some 1, 0, 43, none, fun cs => (Value.agg (List.toArray cs)) = .agg (pc (f) (g)), fun _ => True⟩, ⟨some 2, 0, 43, none, fun cs => cs.length = 64, fun _ => True⟩] w) plan_50o_0 [(2, 0), (3, 1), (4, 2), (5, 3)] 66 rfl (by kernel_rfl) (Inv.start0 hok (by simp)) ⟨?_, ?_, ?_, ?_, trivial⟩ ?_
  · intro L v w hL hD hC hI
    refine ⟨fun _ => ?_, fun hw => by cases hw⟩
    refine Inv.alloc_step hok hI hL ⟨some 0, 0, 22, none, fun cs => (Value.agg (List.toArray cs)) = .agg (bcells (k)), fun _ => True⟩ (by simp) rfl (by simp) (by intro s hs; cases hs) ?_
    rw [show readsOf plan_50o_0 0 = [] from rfl]
    exact ⟨trivial, rfl, (bcells k).toList, by first | rfl | (rw [Array.toArray_toList]; rfl), by show (Value.agg _ = Value.agg _); rw [Array.toArray_toList]⟩
  · intro L v w hL hD hC hI
    refine ⟨fun _ => ?_, fun hw => by cases hw⟩
    refine Inv.alloc_step hok hI hL ⟨some 1, 0, 43, none, fun cs => (Value.agg (List.toArray cs)) = .agg (pc (f) (g)), fun _ => True⟩ (by simp) rfl (by simp) (by intro s hs; cases hs) ?_
    rw [show readsOf plan_50o_0 1 = [] from rfl]
    exact ⟨trivial, rfl, pcL f g, rfl, by show (Value.agg _ = Value.agg _); rfl⟩
  · intro L v w hL hD hC hI
    refine ⟨fun _ => ?_, fun hw => by cases hw⟩
    refine Inv.alloc_step hok hI hL ⟨some 2, 0, 43, none, fun cs => cs.length = 64, fun _ => True⟩ (by simp) rfl (by simp) (by intro s hs; cases hs) ?_
    rw [show readsOf plan_50o_0 2 = [] from rfl]
    go_simp
    first | exact ⟨rfl, _, rfl, by first | rfl | trivial⟩ | exact ⟨trivial, rfl, _, rfl, by first | rfl | trivial⟩ | exact ⟨rfl, pcL (fun _ => 0) (fun _ => 0), rfl, pcL_len _ _⟩ | exact ⟨trivial, rfl, pcL (fun _ => 0) (fun _ => 0), rfl, pcL_len _ _⟩ | exact ⟨rfl, (bcells fun _ => 0).toList, by rw [Array.toArray_toList], by simp⟩ | exact ⟨trivial, rfl, (bcells fun _ => 0).toList, by rw [Array.toArray_toList], by simp⟩
  · intro L v w hL hD hC hI
    refine ⟨fun _ => ?_, fun hw => by cases hw⟩
    refine hI.val_step hL (by simp) ?_
    rw [show readsOf plan_50o_0 3 = [] from rfl]
    first | exact ⟨rfl, Ext.refl _⟩ | (go_simp; exact ⟨rfl, Ext.refl _⟩)
  intro L v1 W1 hL hI
  obtain ⟨bk, cs, hb_bk, lo_bk, hr, hn, ho⟩ := hI.row_made ⟨some 0, 0, 22, none, fun cs => (Value.agg (List.toArray cs)) = .agg (bcells (k)), fun _ => True⟩ (by simp) 0 rfl (hL 0 (by decide))
  have R_bk : RV W1 bk 22 (fun u => u = .agg (bcells (k))) := ⟨cs, hr, ho (by intro s hs; cases hs)⟩
  clear hr hn ho
  obtain ⟨b, cs, hb_b, lo_b, hr, hn, ho⟩ := hI.row_made ⟨some 1, 0, 43, none, fun cs => (Value.agg (List.toArray cs)) = .agg (pc (f) (g)), fun _ => True⟩ (by simp) 1 rfl (hL 1 (by decide))
  have R_b : RV W1 b 43 (fun u => u = .agg (pc (f) (g))) := ⟨cs, hr, ho (by intro s hs; cases hs)⟩
  clear hr hn ho
  obtain ⟨r, cs, hb_r, lo_r, hr, hn, ho⟩ := hI.row_made ⟨some 2, 0, 43, none, fun cs => cs.length = 64, fun _ => True⟩ (by simp) 2 rfl (hL 2 (by decide))
  have R_r : RL W1 r 43 64 := ⟨cs, hr, ho (by intro s hs; cases hs)⟩
  clear hr hn ho
  have ne_bk_b : bk ≠ b := fun e => hI.apart ⟨some 0, 0, 22, none, fun cs => (Value.agg (List.toArray cs)) = .agg (bcells (k)), fun _ => True⟩ (by simp) ⟨some 1, 0, 43, none, fun cs => (Value.agg (List.toArray cs)) = .agg (pc (f) (g)), fun _ => True⟩ (by simp) 0 1 rfl rfl (by decide) (hL 0 (by decide)) (hL 1 (by decide)) (by rw [hb_bk, hb_b, e])
  have ne_bk_r : bk ≠ r := fun e => hI.apart ⟨some 0, 0, 22, none, fun cs => (Value.agg (List.toArray cs)) = .agg (bcells (k)), fun _ => True⟩ (by simp) ⟨some 2, 0, 43, none, fun cs => cs.length = 64, fun _ => True⟩ (by simp) 0 2 rfl rfl (by decide) (hL 0 (by decide)) (hL 2 (by decide)) (by rw [hb_bk, hb_r, e])
  have ne_b_r : b ≠ r := fun e => hI.apart ⟨some 1, 0, 43, none, fun cs => (Value.agg (List.toArray cs)) = .agg (pc (f) (g)), fun _ => True⟩ (by simp) ⟨some 2, 0, 43, none, fun cs => cs.length = 64, fun _ => True⟩ (by simp) 1 2 rfl rfl (by decide) (hL 1 (by decide)) (hL 2 (by decide)) (by rw [hb_b, hb_r, e])
  have hx' : Ext w W1 := hx.trans hI.keep.to_ext
  have lt_bk : bk < W1.heap.size := R_bk.lt
  have bs_bk : w.heap.size ≤ bk := Nat.le_trans hx.size lo_bk
  have lt_b : b < W1.heap.size := R_b.lt
  have bs_b : w.heap.size ≤ b := Nat.le_trans hx.size lo_b
  have lt_r : r < W1.heap.size := R_r.lt
  have bs_r : w.heap.size ≤ r := Nat.le_trans hx.size lo_r
  have hs_5_0 : (v1 3) = .nilIface := hI.val 3 (hL 3 (by decide))
  clear hx hI hL hok L
  have hx := hx'
  clear hx'
  simp only [putP, Act.put, List.setIfInBounds_toArray, List.set_cons_zero, List.set_cons_succ, hb_bk, hb_b, hb_r, hs_5_0]
  go_upto_region 2 with (first | ((with_reducible refine wpl_P R_b ?_ (.tmp 3) ?_ ?_ ?_); rfl; rfl; rfl) | (go_at_call 29; (with_reducible refine (is_false h _).mono ?_); rintro e wq ⟨rfl, hxq⟩))
  replace R_bk := R_bk.ext hxq
  replace R_b := R_b.ext hxq
  replace R_r := R_r.ext hxq
  replace lt_bk := Nat.lt_of_lt_of_le lt_bk hxq.size
  replace lt_b := Nat.lt_of_lt_of_le lt_b hxq.size
  replace lt_r := Nat.lt_of_lt_of_le lt_r hxq.size
  replace hx := hx.trans hxq
  have hok : TrsOk [r] wq.heap.size ([⟨none, r, 43, some 2, fun cs => cs.length = 64, fun cs => (Value.agg (List.toArray cs)) = .agg (pc (fun _ => 0) (fun _ => 0))⟩] : List Trk) := ⟨by simp [R_r.lt], by simp, by simp, by simp⟩
  refine wp_region_text (Inv [r] (fun j u => match j with | 0 => u = .agg (pc (fun _ => 0) (fun _ => 0)) | 1 => u = .iface 30 (.int .i64 29) | 3 => u = .iface 30 (.int .i64 29) | _ => True) [⟨none, r, 43, some 2, fun cs => cs.length = 64, fun cs => (Value.agg (List.toArray cs)) = .agg (pc (fun _ => 0) (fun _ => 0))⟩] wq) plan_50o_2 [(15, 0), (16, 1), (5, 3)] 66 rfl (by kernel_rfl) (Inv.start0 hok (by
      simp only [List.forall_mem_cons, List.not_mem_nil, false_implies, implies_true, and_true]
      exact fun _ => R_r)) ⟨?_, ?_, ?_, ?_, trivial⟩ ?_
  · intro L v w hL hD hC hI
    refine ⟨fun _ => ?_, fun hw => by cases hw⟩
    refine hI.val_step hL (by simp) ?_
    rw [show readsOf plan_50o_2 0 = [] from rfl]
    exact give_zeroP rfl ⟨rfl, Ext.refl _⟩
  · intro L v w hL hD hC hI
    refine ⟨fun _ => ?_, fun hw => by cases hw⟩
    refine hI.val_step hL (by simp) ?_
    rw [show readsOf plan_50o_2 1 = [] from rfl]
    go_simp
    exact ⟨rfl, Ext.refl _⟩
  · intro L v w hL hD hC hI
    refine ⟨fun _ => ?_, fun hw => by cases hw⟩
    have h0 : (v 0) = .agg (pc (fun _ => 0) (fun _ => 0)) := hI.val 0 (hD 0 (by decide))
    refine Inv.store_step hok hI hL ⟨none, r, 43, some 2, fun cs => cs.length = 64, fun cs => (Value.agg (List.toArray cs)) = .agg (pc (fun _ => 0) (fun _ => 0))⟩ (by simp) rfl (by simp) (by intro k hk; cases hk) ?_
    intro n cs hb hR hold
    change n = r at hb
    subst hb
    rw [show readsOf plan_50o_2 2 = [(15, 0)] from rfl]
    exact st_P hR hold _ _ rfl rfl h0 fun w' cs' hr he hk => ⟨trivial, hk, cs', hr, he⟩
  · intro L v w hL hD hC hI
    refine ⟨fun _ => ?_, fun hw => by cases hw⟩
    have h1 : (v 1) = .iface 30 (.int .i64 29) := hI.val 1 (hD 1 (by decide))
    refine hI.val_step hL (by simp) ?_
    rw [show readsOf plan_50o_2 3 = [(16, 1)] from rfl]
    exact ⟨h1, Ext.refl _⟩
  intro L v2 W2 hL hI
  have N_r : RV W2 r 43 (fun u => u = .agg (pc (fun _ => 0) (fun _ => 0))) := hI.row_new ⟨none, r, 43, some 2, fun cs => cs.length = 64, fun cs => (Value.agg (List.toArray cs)) = .agg (pc (fun _ => 0) (fun _ => 0))⟩ (by simp) rfl 2 rfl (hL 2 (by decide))
  replace R_bk := R_bk.keep hI.keep (by simp [ne_bk_r, Ne.symm ne_bk_r])
  replace R_b := R_b.keep hI.keep (by simp [ne_b_r, Ne.symm ne_b_r])
  clear R_r
  have R_r := N_r
  clear N_r
  replace lt_bk := Nat.lt_of_lt_of_le lt_bk hI.keep.size
  replace lt_b := Nat.lt_of_lt_of_le lt_b hI.keep.size
  replace lt_r := Nat.lt_of_lt_of_le lt_r hI.keep.size
  have hx' : Ext w W2 := Ext.keep_ hx hI.keep (by simp only [List.forall_mem_cons, List.not_mem_nil, false_implies, implies_true, and_true]; exact bs_r)
  have hs_5_2 : (v2 3) = .iface 30 (.int .i64 29) := hI.val 3 (hL 3 (by decide))
  clear hx hI hL hok L
  have hx := hx'
  clear hx'
  simp only [putP, Act.put, List.setIfInBounds_toArray, List.set_cons_zero, List.set_cons_succ, hs_5_2]
  go_wp2
  refine bodyPost_ret (results_P2 rfl _ R_r rfl) rfl ?_
  refine ⟨?_, hx⟩
  rfl
end Go.Proofs.Ytndohjgfjbopnaa
