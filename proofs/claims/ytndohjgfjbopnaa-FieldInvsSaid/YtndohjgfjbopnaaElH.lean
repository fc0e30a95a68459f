/-
  Walks of the element's functions: the inverse.
-/
import Derived.Test.YtndohjgfjbopnaaElE
set_option linter.unusedSimpArgs false
set_option linter.unusedVariables false
namespace Go.Proofs.Ytndohjgfjbopnaa
open Go.RowKit Go.Cv

theorem c4new_ (w : World) (a b c d : UInt64) (T : TypeId) {n : Nat} (hn : n = w.heap.size) : C4 (w.alloc (.cells (w4 a b c d) T)) n a b c d := hn ▸ C4.new w a b c d T
set_option maxHeartbeats 2000000 in
theorem inv_any (a b c d : UInt64) (w : World) :
    Calls Try.prog 58 #[el a b c d] w fun e w' => ∃ s0 s1 s2 s3, e = .returned (el s0 s1 s2 s3) ∧
      PowIs (val4 s0 s1 s2 s3) (val4 a b c d) (2 ^ 255 - 21) ∧ Ext w w' := by
  go_enter Try.func58, Try.ntmps58
  go_upto_region 1 with fail
  go_cut [3, 4] from 5 to 9 (fun p q wx => ∃ (nt nl : Nat) (vt0 vt1 vt2 vt3 vl0 vl1 vl2 vl3 : UInt64), p = .pointer (some ⟨nt, 0, none⟩) ∧ q = .pointer (some ⟨nl, 0, none⟩) ∧ C4 wx nt vt0 vt1 vt2 vt3 ∧ C4 wx nl vl0 vl1 vl2 vl3 ∧
    Ext ((w.alloc (.cells (w4 a b c d) 73)).alloc (.cells (w4 0 0 0 0) 73)) wx ∧ ((w.alloc (.cells (w4 a b c d) 73)).alloc (.cells (w4 0 0 0 0) 73)).heap.size ≤ nt ∧ ((w.alloc (.cells (w4 a b c d) 73)).alloc (.cells (w4 0 0 0 0) 73)).heap.size ≤ nl ∧ PowIs (val4 vt0 vt1 vt2 vt3) (val4 a b c d) (2 ^ 250 - 1) ∧ PowIs (val4 vl0 vl1 vl2 vl3) (val4 a b c d) 11)
  case first =>
    go_wp2_with (go_at_call 88; with_reducible refine (ones_any _ _ _ _ _).mono ?_; rintro e w' ⟨s0, s1, s2, s3, t0, t1, t2, t3, rfl, hs, ht, hx⟩; obtain ⟨l', rfl⟩ := grw_of_ext hx; clear hx)
    go_meet
    case rel =>
      refine ⟨_, _, s0, s1, s2, s3, t0, t1, t2, t3, rfl, rfl, (c4new_ _ _ _ _ _ _ rfl).ext (ext_alloc _ _), c4new_ _ _ _ _ _ _ (by simp), ((grw_ext _ _).trans (ext_alloc _ _)).trans (ext_alloc _ _), ?_, ?_, hs, ht⟩
      · exact (grw_ext _ _).size_
      · exact Nat.le_succ_of_le (grw_ext _ _).size_
  case rest =>
  obtain ⟨nt, nl, vt0, vt1, vt2, vt3, vl0, vl1, vl2, vl3, rfl, rfl, ⟨ft_0, ft_1, ft_2, ft_3⟩, ⟨fl_0, fl_1, fl_2, fl_3⟩, hE, hszt, hszl, ht, hl⟩ := hcut
  replace ht := Lib.hid ht
  replace hl := Lib.hid hl
  obtain ⟨x, rfl⟩ := grw_of_ext hE
  clear hE
  go_upto_region 2 with fail
  have gt_0 : ∀ (c1 : Array Value) (z : Nat) (o : Array Obj), (grw ((w.alloc (.cells (w4 a b c d) 73)).alloc (.cells c1 73)) (z, x.2 ++ o)).cell? ⟨nt, 0, none⟩ = some (.int .u64 (n64 vt0)) := fun c1 z o => grw_cell_ge (w := ((w.alloc (.cells (w4 a b c d) 73)).alloc (.cells (w4 0 0 0 0) 73))) (by simp) hszt ft_0 z o
  have dt_0 : ∀ (c1 : Array Value) (z : Nat), (grw ((w.alloc (.cells (w4 a b c d) 73)).alloc (.cells c1 73)) (z, x.2)).cell? ⟨nt, 0, none⟩ = some (.int .u64 (n64 vt0)) := fun c1 z => by have := gt_0 c1 z #[]; rwa [Array.append_empty] at this
  clear ft_0
  have gt_1 : ∀ (c1 : Array Value) (z : Nat) (o : Array Obj), (grw ((w.alloc (.cells (w4 a b c d) 73)).alloc (.cells c1 73)) (z, x.2 ++ o)).cell? ⟨nt, 1, none⟩ = some (.int .u64 (n64 vt1)) := fun c1 z o => grw_cell_ge (w := ((w.alloc (.cells (w4 a b c d) 73)).alloc (.cells (w4 0 0 0 0) 73))) (by simp) hszt ft_1 z o
  have dt_1 : ∀ (c1 : Array Value) (z : Nat), (grw ((w.alloc (.cells (w4 a b c d) 73)).alloc (.cells c1 73)) (z, x.2)).cell? ⟨nt, 1, none⟩ = some (.int .u64 (n64 vt1)) := fun c1 z => by have := gt_1 c1 z #[]; rwa [Array.append_empty] at this
  clear ft_1
  have gt_2 : ∀ (c1 : Array Value) (z : Nat) (o : Array Obj), (grw ((w.alloc (.cells (w4 a b c d) 73)).alloc (.cells c1 73)) (z, x.2 ++ o)).cell? ⟨nt, 2, none⟩ = some (.int .u64 (n64 vt2)) := fun c1 z o => grw_cell_ge (w := ((w.alloc (.cells (w4 a b c d) 73)).alloc (.cells (w4 0 0 0 0) 73))) (by simp) hszt ft_2 z o
  have dt_2 : ∀ (c1 : Array Value) (z : Nat), (grw ((w.alloc (.cells (w4 a b c d) 73)).alloc (.cells c1 73)) (z, x.2)).cell? ⟨nt, 2, none⟩ = some (.int .u64 (n64 vt2)) := fun c1 z => by have := gt_2 c1 z #[]; rwa [Array.append_empty] at this
  clear ft_2
  have gt_3 : ∀ (c1 : Array Value) (z : Nat) (o : Array Obj), (grw ((w.alloc (.cells (w4 a b c d) 73)).alloc (.cells c1 73)) (z, x.2 ++ o)).cell? ⟨nt, 3, none⟩ = some (.int .u64 (n64 vt3)) := fun c1 z o => grw_cell_ge (w := ((w.alloc (.cells (w4 a b c d) 73)).alloc (.cells (w4 0 0 0 0) 73))) (by simp) hszt ft_3 z o
  have dt_3 : ∀ (c1 : Array Value) (z : Nat), (grw ((w.alloc (.cells (w4 a b c d) 73)).alloc (.cells c1 73)) (z, x.2)).cell? ⟨nt, 3, none⟩ = some (.int .u64 (n64 vt3)) := fun c1 z => by have := gt_3 c1 z #[]; rwa [Array.append_empty] at this
  clear ft_3
  clear hszt
  have gl_0 : ∀ (c1 : Array Value) (z : Nat) (o : Array Obj), (grw ((w.alloc (.cells (w4 a b c d) 73)).alloc (.cells c1 73)) (z, x.2 ++ o)).cell? ⟨nl, 0, none⟩ = some (.int .u64 (n64 vl0)) := fun c1 z o => grw_cell_ge (w := ((w.alloc (.cells (w4 a b c d) 73)).alloc (.cells (w4 0 0 0 0) 73))) (by simp) hszl fl_0 z o
  have dl_0 : ∀ (c1 : Array Value) (z : Nat), (grw ((w.alloc (.cells (w4 a b c d) 73)).alloc (.cells c1 73)) (z, x.2)).cell? ⟨nl, 0, none⟩ = some (.int .u64 (n64 vl0)) := fun c1 z => by have := gl_0 c1 z #[]; rwa [Array.append_empty] at this
  clear fl_0
  have gl_1 : ∀ (c1 : Array Value) (z : Nat) (o : Array Obj), (grw ((w.alloc (.cells (w4 a b c d) 73)).alloc (.cells c1 73)) (z, x.2 ++ o)).cell? ⟨nl, 1, none⟩ = some (.int .u64 (n64 vl1)) := fun c1 z o => grw_cell_ge (w := ((w.alloc (.cells (w4 a b c d) 73)).alloc (.cells (w4 0 0 0 0) 73))) (by simp) hszl fl_1 z o
  have dl_1 : ∀ (c1 : Array Value) (z : Nat), (grw ((w.alloc (.cells (w4 a b c d) 73)).alloc (.cells c1 73)) (z, x.2)).cell? ⟨nl, 1, none⟩ = some (.int .u64 (n64 vl1)) := fun c1 z => by have := gl_1 c1 z #[]; rwa [Array.append_empty] at this
  clear fl_1
  have gl_2 : ∀ (c1 : Array Value) (z : Nat) (o : Array Obj), (grw ((w.alloc (.cells (w4 a b c d) 73)).alloc (.cells c1 73)) (z, x.2 ++ o)).cell? ⟨nl, 2, none⟩ = some (.int .u64 (n64 vl2)) := fun c1 z o => grw_cell_ge (w := ((w.alloc (.cells (w4 a b c d) 73)).alloc (.cells (w4 0 0 0 0) 73))) (by simp) hszl fl_2 z o
  have dl_2 : ∀ (c1 : Array Value) (z : Nat), (grw ((w.alloc (.cells (w4 a b c d) 73)).alloc (.cells c1 73)) (z, x.2)).cell? ⟨nl, 2, none⟩ = some (.int .u64 (n64 vl2)) := fun c1 z => by have := gl_2 c1 z #[]; rwa [Array.append_empty] at this
  clear fl_2
  have gl_3 : ∀ (c1 : Array Value) (z : Nat) (o : Array Obj), (grw ((w.alloc (.cells (w4 a b c d) 73)).alloc (.cells c1 73)) (z, x.2 ++ o)).cell? ⟨nl, 3, none⟩ = some (.int .u64 (n64 vl3)) := fun c1 z o => grw_cell_ge (w := ((w.alloc (.cells (w4 a b c d) 73)).alloc (.cells (w4 0 0 0 0) 73))) (by simp) hszl fl_3 z o
  have dl_3 : ∀ (c1 : Array Value) (z : Nat), (grw ((w.alloc (.cells (w4 a b c d) 73)).alloc (.cells c1 73)) (z, x.2)).cell? ⟨nl, 3, none⟩ = some (.int .u64 (n64 vl3)) := fun c1 z => by have := gl_3 c1 z #[]; rwa [Array.append_empty] at this
  clear fl_3
  clear hszl
  go_region_with
    (first
        | (go_at_call 70; with_reducible refine (mul_any _ _ _ _ _ _ _ _ _).mono ?_; rintro e w' ⟨r0, r1, r2, r3, rfl, hr, hx⟩; obtain ⟨l', rfl⟩ := grw_of_ext hx; clear hx)
        | (go_at_call 89; with_reducible refine (squares_5 _ _ _ _ _).mono ?_; rintro e w' ⟨q0, q1, q2, q3, rfl, hq, hx⟩; obtain ⟨l', rfl⟩ := grw_of_ext hx; clear hx))
  all_goals
    go_wp2
    refine bodyPost_ret_by (by simp [results, Try.results58, go_sem]; rfl) rfl ?_
    exact ⟨r0, r1, r2, r3, rfl, pow_mm (2 ^ 255 - 21) (pow_sm 5 _ ht.out hq rfl) hl.out hr (by decide), ((ext_alloc _ _).trans (ext_alloc _ _)).trans (grw_ext _ _)⟩
end Go.Proofs.Ytndohjgfjbopnaa
