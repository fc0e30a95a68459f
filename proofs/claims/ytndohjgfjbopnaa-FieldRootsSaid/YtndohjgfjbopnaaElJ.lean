/-
  Walks of the element's functions: the root.
-/
import Derived.Test.YtndohjgfjbopnaaElH
import Derived.Test.YtndohjgfjbopnaaElI
set_option linter.unusedSimpArgs false
set_option linter.unusedVariables false
namespace Go.Cv
open Go.RowKit
section nested
variable (B : World) (x y : Nat × Array Obj) (o : Obj) (c : Array Value) (T : TypeId) (n i : Nat) (v : Value)
theorem gag_lt (hn : n < B.heap.size) : n < ((grw B x).alloc o).heap.size := by
  have := grw_lt x hn
  simp
  omega
@[go_sem ↓ high] theorem cell_gag (hn : n < B.heap.size) : (grw ((grw B x).alloc o) y).cell? ⟨n, i, none⟩ = B.cell? ⟨n, i, none⟩ := by
  rw [grw_cell _ _ _ _ (gag_lt B x o n hn), cell_grw_al _ _ _ _ _ hn]
@[go_sem ↓ high] theorem frozen_gag (hn : n < B.heap.size) : (grw ((grw B x).alloc o) y).frozen? ⟨n, i, none⟩ = B.frozen? ⟨n, i, none⟩ := by
  rw [grw_frozen _ _ _ _ (gag_lt B x o n hn), frozen_grw_al _ _ _ _ _ hn]
@[go_sem ↓ high] theorem setCell_gag (hn : n < B.heap.size) : (grw ((grw B x).alloc o) y).setCell ⟨n, i, none⟩ v = grw ((grw (B.setCell ⟨n, i, none⟩ v) x).alloc o) y := by
  rw [grw_setCell _ _ _ _ _ (gag_lt B x o n hn), setCell_grw_al _ _ _ _ _ _ hn]
theorem gat_lt : (grw B x).heap.size < ((grw B x).alloc o).heap.size := by simp
@[go_sem ↓ high] theorem cell_gat : (grw ((grw B x).alloc (.cells c T)) y).cell? ⟨(grw B x).heap.size, i, none⟩ = c[i]? := by
  rw [grw_cell _ _ _ _ (gat_lt B x _), World.cell?_alloc_at _ _ _ _ rfl]
@[go_sem ↓ high] theorem frozen_gat : (grw ((grw B x).alloc (.cells c T)) y).frozen? ⟨(grw B x).heap.size, i, none⟩ = false := by
  rw [grw_frozen _ _ _ _ (gat_lt B x _), World.frozen?_alloc_at _ _ _ _ rfl]
@[go_sem ↓ high] theorem setCell_gat : (grw ((grw B x).alloc (.cells c T)) y).setCell ⟨(grw B x).heap.size, i, none⟩ v = grw ((grw B x).alloc (.cells (c.setIfInBounds i v) T)) y := by
  rw [grw_setCell _ _ _ _ _ (gat_lt B x _), World.setCell_alloc_at _ _ _ _ _ rfl]
end nested
theorem met_a {B V : World} {T : TypeId} {r0 r1 r2 r3 : UInt64} {Q : Nat → Prop} (hx : Ext B V) (hq : Q (val4 r0 r1 r2 r3)) :
    ∃ (x y : Nat × Array Obj) (s0 s1 s2 s3 : UInt64), Value.pointer (some ⟨V.heap.size, 0, none⟩) = .pointer (some ⟨(grw B x).heap.size, 0, none⟩) ∧ V.alloc (.cells (w4 r0 r1 r2 r3) T) = grw ((grw B x).alloc (.cells (w4 s0 s1 s2 s3) T)) y ∧ Q (val4 s0 s1 s2 s3) := by
  obtain ⟨x, rfl⟩ := grw_of_ext hx
  exact ⟨x, _, r0, r1, r2, r3, rfl, grw_self _, hq⟩
theorem met_b {B V : World} {T : TypeId} {r0 r1 r2 r3 : UInt64} {l : Nat × Array Obj} {Q : Nat → Prop} (hx : Ext B V) (hq : Q (val4 r0 r1 r2 r3)) :
    ∃ (x y : Nat × Array Obj) (s0 s1 s2 s3 : UInt64), Value.pointer (some ⟨V.heap.size, 0, none⟩) = .pointer (some ⟨(grw B x).heap.size, 0, none⟩) ∧ grw (V.alloc (.cells (w4 r0 r1 r2 r3) T)) l = grw ((grw B x).alloc (.cells (w4 s0 s1 s2 s3) T)) y ∧ Q (val4 s0 s1 s2 s3) := by
  obtain ⟨x, rfl⟩ := grw_of_ext hx
  exact ⟨x, l, r0, r1, r2, r3, rfl, rfl, hq⟩
/-- A root of -1. -/
def rm1 : Nat := val4 14190309331451158704 3405592160176694392 3120150775007532967 3135389899092516619
/-- What is tried as the root. -/
def pE (A : Nat) : Nat := A ^ (2 ^ 252 - 2)
theorem pE_is {r A : Nat} (h : PowIs r A (2 ^ 252 - 2)) : Eqp r (pE A) := by
  unfold PowIs at h
  unfold pE
  exact h
def rtc (A : Nat) : Nat := if Eqp (pE A * pE A) A then pE A else pE A * rm1
def rtOk (A : Nat) : Bool := decide (Eqp (rtc A * rtc A) A)
theorem rtc_yes {s r A : Nat} (hs : Eqp s (r * r)) (hr : PowIs r A (2 ^ 252 - 2)) (h : beqb (nb (s % (2 ^ 255 - 19))) (nb (A % (2 ^ 255 - 19))) = true) : Eqp r (rtc A) := by
  rw [beqb_mod, decide_eq_true_iff] at h
  replace hr := pE_is hr
  unfold rtc
  rw [if_pos (((hr.mul hr).sy.tr hs.sy).tr h)]
  exact hr
theorem rtc_no {s r t A : Nat} (hs : Eqp s (r * r)) (hr : PowIs r A (2 ^ 252 - 2)) (ht : Eqp t (r * rm1)) (h : beqb (nb (s % (2 ^ 255 - 19))) (nb (A % (2 ^ 255 - 19))) = false) : Eqp t (rtc A) := by
  rw [beqb_mod, decide_eq_false_iff_not] at h
  replace hr := pE_is hr
  unfold rtc
  rw [if_neg (fun h2 => h ((hs.tr (hr.mul hr)).tr h2))]
  exact ht.tr (hr.mul (Eqp.refl rm1))
theorem rtOk_of {s r A : Nat} (hs : Eqp s (r * r)) (hr : Eqp r (rtc A)) : beqb (nb (s % (2 ^ 255 - 19))) (nb (A % (2 ^ 255 - 19))) = rtOk A := by
  rw [beqb_mod]
  unfold rtOk
  rw [decide_eq_decide]
  exact ⟨fun h => ((hr.mul hr).sy.tr hs.sy).tr h, fun h => (hs.tr (hr.mul hr)).tr h⟩
/-- What the root is, where there is one. -/
def RootIs (A s : Nat) : Prop := rtOk A = true → if rtc A % (2 ^ 255 - 19) % 2 = 1 then Eqp (s + rtc A) 0 else Eqp s (rtc A)
theorem RootIs.no {A s : Nat} (h : false = rtOk A) : RootIs A s := fun h2 => by rw [← h] at h2; exact absurd h2 (by decide)
theorem RootIs.odd {A s r : Nat} {v : UInt8} (hr : Eqp r (rtc A)) (hs : Eqp (s + r) 0) (hv : (v &&& 1 == 1) = decide (rtc A % (2 ^ 255 - 19) % 2 = 1)) (h : (v &&& 1 == 1) = true) : RootIs A s := fun _ => by
  rw [h] at hv
  rw [if_pos (of_decide_eq_true hv.symm)]
  exact ((Eqp.refl s).add hr.sy).tr hs
theorem RootIs.even {A r : Nat} {v : UInt8} (hr : Eqp r (rtc A)) (hv : (v &&& 1 == 1) = decide (rtc A % (2 ^ 255 - 19) % 2 = 1)) (h : (v &&& 1 == 1) = false) : RootIs A r := fun _ => by
  rw [h] at hv
  rw [if_neg (of_decide_eq_false hv.symm)]
  exact hr
theorem met_c {R : World} {l : Nat × Array Obj} {T : TypeId} {f : Nat → UInt8} {P : UInt8 → Prop} (h : P (f 0)) :
    ∃ (n : Nat) (y : Nat × Array Obj) (v : UInt8), Value.pointer (some ⟨(grw R l).heap.size, 0, none⟩) = .pointer (some ⟨n, 0, none⟩) ∧ (grw R l).alloc (.cells (bcells f) T) = grw R y ∧ (grw R y).cell? ⟨n, 0, none⟩ = some (.int .u8 (n8 v)) ∧ P v := by
  obtain ⟨z, hz⟩ := grw_of_ext ((grw_ext R l).trans (ext_alloc _ (.cells (bcells f) T)))
  refine ⟨_, z, f 0, rfl, hz, ?_, h⟩
  rw [← hz, World.cell?_alloc_at _ _ _ _ rfl, bcells_get f (by decide)]
theorem nb_odd (n : Nat) : (nb n 0 &&& 1 == 1) = decide (n % 2 = 1) := by
  rw [Bool.eq_iff_iff, beq_iff_eq, decide_eq_true_iff]
  have h : (nb n 0 &&& 1).toNat = n % 2 := by
    rw [UInt8.toNat_and]
    unfold nb
    rw [UInt8.toNat_ofNat', show (1 : UInt8).toNat = 2 ^ 1 - 1 from rfl, Nat.and_two_pow_sub_one_eq_mod]
    simp
  constructor
  · intro h2
    rw [h2] at h
    exact h.symm
  · intro h2
    apply UInt8.toNat_inj.1
    rw [h, h2]
    rfl
end Go.Cv
namespace Go.Proofs.Ytndohjgfjbopnaa
open Go.RowKit Go.Cv

theorem mul_rm1 (a b c d : UInt64) (w : World) :
    Calls Try.prog 70 #[el a b c d, .agg #[.int .u64 14190309331451158704, .int .u64 3405592160176694392, .int .u64 3120150775007532967, .int .u64 3135389899092516619]] w fun e w' => ∃ s0 s1 s2 s3, e = .returned (el s0 s1 s2 s3) ∧
      Eqp (val4 s0 s1 s2 s3) (val4 a b c d * rm1) ∧ Ext w w' := mul_any a b c d 14190309331451158704 3405592160176694392 3120150775007532967 3135389899092516619 w
theorem sub_0 (a b c d : UInt64) (w : World) :
    Calls Try.prog 69 #[.agg #[.int .u64 0, .int .u64 0, .int .u64 0, .int .u64 0], el a b c d] w fun e w' => ∃ s0 s1 s2 s3, e = .returned (el s0 s1 s2 s3) ∧
      Eqp (val4 s0 s1 s2 s3 + val4 a b c d) 0 ∧ Ext w w' := sub_any 0 0 0 0 a b c d w
set_option maxHeartbeats 4000000 in
theorem root_any (a b c d : UInt64) (w : World) :
    Calls Try.prog 64 #[el a b c d] w fun e w' => ∃ s0 s1 s2 s3, e = .returned (.tuple #[el s0 s1 s2 s3, .bool (rtOk (val4 a b c d))]) ∧
      RootIs (val4 a b c d) (val4 s0 s1 s2 s3) ∧ Ext w w' := by
  go_enter Try.func64, Try.ntmps64
  go_upto_region 1 with fail
  go_cut [4] from 5 to 12 (fun p wx => ∃ (x : Nat × Array Obj) (nt : Nat) (t0 t1 t2 t3 : UInt64), p = .pointer (some ⟨nt, 0, none⟩) ∧ wx = grw ((w.alloc (.cells (w4 a b c d) 73)).alloc (.cells (w4 0 0 0 0) 73)) x ∧ C4 (grw ((w.alloc (.cells (w4 a b c d) 73)).alloc (.cells (w4 0 0 0 0) 73)) x) nt t0 t1 t2 t3 ∧ PowIs (val4 t0 t1 t2 t3) (val4 a b c d) (2 ^ 250 - 1))
  case first =>
    go_wp2_with (go_at_call 88; with_reducible refine (ones_any _ _ _ _ _).mono ?_; rintro e w' ⟨t0, t1, t2, t3, v0, v1, v2, v3, rfl, ht, hv, hx⟩; obtain ⟨l', rfl⟩ := grw_of_ext hx; clear hx)
    go_meet
    case rel =>
      obtain ⟨x, hx⟩ := grw_of_ext (((grw_ext ((w.alloc (.cells (w4 a b c d) 73)).alloc (.cells (w4 0 0 0 0) 73)) l').trans (ext_alloc _ (.cells (w4 t0 t1 t2 t3) 73))).trans (ext_alloc _ (.cells (w4 v0 v1 v2 v3) 73)))
      refine ⟨x, _, t0, t1, t2, t3, rfl, hx, ?_, ht⟩
      rw [← hx]
      exact (c4new_ _ _ _ _ _ _ rfl).ext (ext_alloc _ _)
  case rest =>
  obtain ⟨x, nt, t0, t1, t2, t3, rfl, rfl, ⟨ft_0, ft_1, ft_2, ft_3⟩, ht⟩ := hcut
  replace ht := Lib.hid ht
  have he : C4 (grw ((w.alloc (.cells (w4 a b c d) 73)).alloc (.cells (w4 0 0 0 0) 73)) x) w.heap.size a b c d := ((C4.new w a b c d _).ext (ext_alloc _ _)).ext (grw_ext _ _)
  obtain ⟨fe_0, fe_1, fe_2, fe_3⟩ := he
  obtain ⟨W, hW⟩ : ∃ W, W = grw ((w.alloc (.cells (w4 a b c d) 73)).alloc (.cells (w4 0 0 0 0) 73)) x := ⟨_, rfl⟩
  rw [← hW] at ft_0 ft_1 ft_2 ft_3 fe_0 fe_1 fe_2 fe_3 ⊢
  have HW := Lib.hid hW
  clear hW
  go_upto_region 2 with fail
  go_cut [6] from 13 to 18 (fun p wx => ∃ (x y : Nat × Array Obj) (r0 r1 r2 r3 : UInt64), p = .pointer (some ⟨(grw ((w.alloc (.cells (w4 a b c d) 73)).alloc (.cells (w4 0 0 0 0) 73)) x).heap.size, 0, none⟩) ∧ wx = grw ((grw ((w.alloc (.cells (w4 a b c d) 73)).alloc (.cells (w4 0 0 0 0) 73)) x).alloc (.cells (w4 r0 r1 r2 r3) 73)) y ∧ PowIs (val4 r0 r1 r2 r3) (val4 a b c d) (2 ^ 252 - 2))
  case first =>
    go_region_held3 (fun w' => w'.cell? ⟨w.heap.size, 0, none⟩ = some (.int .u64 (n64 a)) ∧ w'.cell? ⟨w.heap.size, 1, none⟩ = some (.int .u64 (n64 b)) ∧ w'.cell? ⟨w.heap.size, 2, none⟩ = some (.int .u64 (n64 c)) ∧ w'.cell? ⟨w.heap.size, 3, none⟩ = some (.int .u64 (n64 d)) ∧ w'.cell? ⟨nt, 0, none⟩ = some (.int .u64 (n64 t0)) ∧ w'.cell? ⟨nt, 1, none⟩ = some (.int .u64 (n64 t1)) ∧ w'.cell? ⟨nt, 2, none⟩ = some (.int .u64 (n64 t2)) ∧ w'.cell? ⟨nt, 3, none⟩ = some (.int .u64 (n64 t3)))
      (refine ⟨Ext.cell (w := W) ?_ fe_0, Ext.cell (w := W) ?_ fe_1, Ext.cell (w := W) ?_ fe_2, Ext.cell (w := W) ?_ fe_3, Ext.cell (w := W) ?_ ft_0, Ext.cell (w := W) ?_ ft_1, Ext.cell (w := W) ?_ ft_2, Ext.cell (w := W) ?_ ft_3⟩ <;> (repeat (first | exact Ext.refl _ | assumption | exact grw_ext _ _ | exact ext_drew _ | exact ext_alloc _ _ | refine Ext.trans ?_ (ext_alloc _ _) | refine Ext.trans ?_ (grw_ext _ _) | refine Ext.trans ?_ (ext_drew _))))
      (first
        | (go_at_call 89; with_reducible refine (squares_2 _ _ _ _ _).mono ?_; rintro e w' ⟨q0, q1, q2, q3, rfl, hq, hx⟩; obtain ⟨l', rfl⟩ := grw_of_ext hx; clear hx)
        | (go_at_call 70; with_reducible refine (mul_any a b c d a b c d _).mono ?_; rintro e w' ⟨m0, m1, m2, m3, rfl, hm, hx⟩; obtain ⟨l', rfl⟩ := grw_of_ext hx; clear hx)
        | (go_at_call 70; with_reducible refine (mul_any _ _ _ _ _ _ _ _ _).mono ?_; rintro e w' ⟨r0, r1, r2, r3, rfl, hr, hx⟩; obtain ⟨l', rfl⟩ := grw_of_ext hx; clear hx))
    all_goals
      go_wp2_with fail
      go_meet
      case rel =>
        have hpow := pow_mm (2 ^ 252 - 2) (pow_sm 2 _ ht.out hq rfl) (pow_mm 2 (PowIs.one _) (PowIs.one _) hm (by decide)) hr (by decide)
        first
          | exact met_a (Q := fun v => PowIs v (val4 a b c d) (2 ^ 252 - 2)) (by rw [HW.out]; (repeat (first | exact Ext.refl _ | assumption | exact grw_ext _ _ | exact ext_drew _ | exact ext_alloc _ _ | refine Ext.trans ?_ (ext_alloc _ _) | refine Ext.trans ?_ (grw_ext _ _) | refine Ext.trans ?_ (ext_drew _)))) hpow
          | exact met_b (Q := fun v => PowIs v (val4 a b c d) (2 ^ 252 - 2)) (by rw [HW.out]; (repeat (first | exact Ext.refl _ | assumption | exact grw_ext _ _ | exact ext_drew _ | exact ext_alloc _ _ | refine Ext.trans ?_ (ext_alloc _ _) | refine Ext.trans ?_ (grw_ext _ _) | refine Ext.trans ?_ (ext_drew _)))) hpow
  case rest =>
  clear ft_0 ft_1 ft_2 ft_3 fe_0 fe_1 fe_2 fe_3 ht HW W
  obtain ⟨x, y, r0, r1, r2, r3, rfl, rfl, hr⟩ := hcut
  replace hr := Lib.hid hr
  obtain ⟨nr, hnr⟩ : ∃ n, n = (grw ((w.alloc (.cells (w4 a b c d) 73)).alloc (.cells (w4 0 0 0 0) 73)) x).heap.size := ⟨_, rfl⟩
  have HN := Lib.hid hnr
  rw [← hnr]
  clear hnr
  go_step
  go_step
  go_cut [25] from 19 to 28 (fun p wx => ∃ (y : Nat × Array Obj) (s0 s1 s2 s3 : UInt64), wx = grw ((grw ((w.alloc (.cells (w4 a b c d) 73)).alloc (.cells (w4 0 0 0 0) 73)) x).alloc (.cells (w4 s0 s1 s2 s3) 73)) y ∧ Eqp (val4 s0 s1 s2 s3) (rtc (val4 a b c d)))
  case first =>
    have hn := HN.out
    have he : C4 (grw ((grw ((w.alloc (.cells (w4 a b c d) 73)).alloc (.cells (w4 0 0 0 0) 73)) x).alloc (.cells (w4 r0 r1 r2 r3) 73)) y) w.heap.size a b c d := ((((C4.new w a b c d _).ext (ext_alloc _ _)).ext (grw_ext _ _)).ext (ext_alloc _ _)).ext (grw_ext _ _)
    have hf : C4 (grw ((grw ((w.alloc (.cells (w4 a b c d) 73)).alloc (.cells (w4 0 0 0 0) 73)) x).alloc (.cells (w4 r0 r1 r2 r3) 73)) y) nr r0 r1 r2 r3 := (c4new_ _ _ _ _ _ _ hn).ext (grw_ext _ _)
    clear hn
    obtain ⟨fe_0, fe_1, fe_2, fe_3⟩ := he
    obtain ⟨fr_0, fr_1, fr_2, fr_3⟩ := hf
    obtain ⟨W, hW⟩ : ∃ W, W = grw ((grw ((w.alloc (.cells (w4 a b c d) 73)).alloc (.cells (w4 0 0 0 0) 73)) x).alloc (.cells (w4 r0 r1 r2 r3) 73)) y := ⟨_, rfl⟩
    rw [← hW] at fr_0 fr_1 fr_2 fr_3 fe_0 fe_1 fe_2 fe_3 ⊢
    have HW := Lib.hid hW
    clear hW
    go_upto_region 3 with fail
    go_region_held3 (fun w' => w'.cell? ⟨w.heap.size, 0, none⟩ = some (.int .u64 (n64 a)) ∧ w'.cell? ⟨w.heap.size, 1, none⟩ = some (.int .u64 (n64 b)) ∧ w'.cell? ⟨w.heap.size, 2, none⟩ = some (.int .u64 (n64 c)) ∧ w'.cell? ⟨w.heap.size, 3, none⟩ = some (.int .u64 (n64 d)) ∧ w'.cell? ⟨nr, 0, none⟩ = some (.int .u64 (n64 r0)) ∧ w'.cell? ⟨nr, 1, none⟩ = some (.int .u64 (n64 r1)) ∧ w'.cell? ⟨nr, 2, none⟩ = some (.int .u64 (n64 r2)) ∧ w'.cell? ⟨nr, 3, none⟩ = some (.int .u64 (n64 r3)))
      (refine ⟨Ext.cell (w := W) ?_ fe_0, Ext.cell (w := W) ?_ fe_1, Ext.cell (w := W) ?_ fe_2, Ext.cell (w := W) ?_ fe_3, Ext.cell (w := W) ?_ fr_0, Ext.cell (w := W) ?_ fr_1, Ext.cell (w := W) ?_ fr_2, Ext.cell (w := W) ?_ fr_3⟩ <;> (repeat (first | exact Ext.refl _ | assumption | exact grw_ext _ _ | exact ext_drew _ | exact ext_alloc _ _ | refine Ext.trans ?_ (ext_alloc _ _) | refine Ext.trans ?_ (grw_ext _ _) | refine Ext.trans ?_ (ext_drew _))))
      (first
        | (go_at_call 70; with_reducible refine (mul_any r0 r1 r2 r3 r0 r1 r2 r3 _).mono ?_; rintro e w' ⟨m0, m1, m2, m3, rfl, hm, hx⟩; obtain ⟨l', rfl⟩ := grw_of_ext hx; clear hx)
        | (go_at_call 59; with_reducible refine (out_any a b c d _).mono ?_; rintro e w' ⟨rfl, hx⟩; obtain ⟨l', rfl⟩ := grw_of_ext hx; clear hx)
        | (go_at_call 59; with_reducible refine (out_any _ _ _ _ _).mono ?_; rintro e w' ⟨rfl, hx⟩; obtain ⟨l', rfl⟩ := grw_of_ext hx; clear hx))
    all_goals
      have hW := HW.out
      clear HW fe_0 fe_1 fe_2 fe_3 fr_0 fr_1 fr_2 fr_3
      subst hW
      have hn := HN.out
      clear HN
      subst hn
      go_wp2_with (go_at_call 70; with_reducible refine (mul_rm1 _ _ _ _ _).mono ?_; rintro e w' ⟨s0, s1, s2, s3, rfl, hs, hx⟩; obtain ⟨l', rfl⟩ := grw_of_ext hx; clear hx)
      all_goals go_meet
      case rel =>
        rename_i hc
        exact ⟨_, s0, s1, s2, s3, rfl, rtc_no (Eqp.refl _) hr.out hs (by simpa using hc)⟩
      case rel =>
        rename_i hc
        exact ⟨_, r0, r1, r2, r3, by rw [grw_drew, grw_grw], rtc_yes (Eqp.refl _) hr.out (by simpa using hc)⟩
  case rest =>
  clear hr y
  obtain ⟨y, s0, s1, s2, s3, rfl, hs⟩ := hcut
  have HS := Lib.hid hs
  clear hs
  go_upto_region 5 with fail
  go_cut [35] from 29 to 35 (fun p wx => p = .bool (!rtOk (val4 a b c d)) ∧ ∃ (y : Nat × Array Obj), wx = grw ((grw ((w.alloc (.cells (w4 a b c d) 73)).alloc (.cells (w4 0 0 0 0) 73)) x).alloc (.cells (w4 s0 s1 s2 s3) 73)) y)
  case first =>
    have hn := HN.out
    have he : C4 (grw ((grw ((w.alloc (.cells (w4 a b c d) 73)).alloc (.cells (w4 0 0 0 0) 73)) x).alloc (.cells (w4 s0 s1 s2 s3) 73)) y) w.heap.size a b c d := ((((C4.new w a b c d _).ext (ext_alloc _ _)).ext (grw_ext _ _)).ext (ext_alloc _ _)).ext (grw_ext _ _)
    have hf : C4 (grw ((grw ((w.alloc (.cells (w4 a b c d) 73)).alloc (.cells (w4 0 0 0 0) 73)) x).alloc (.cells (w4 s0 s1 s2 s3) 73)) y) nr s0 s1 s2 s3 := (c4new_ _ _ _ _ _ _ hn).ext (grw_ext _ _)
    clear hn
    obtain ⟨fe_0, fe_1, fe_2, fe_3⟩ := he
    obtain ⟨fr_0, fr_1, fr_2, fr_3⟩ := hf
    obtain ⟨W, hW⟩ : ∃ W, W = grw ((grw ((w.alloc (.cells (w4 a b c d) 73)).alloc (.cells (w4 0 0 0 0) 73)) x).alloc (.cells (w4 s0 s1 s2 s3) 73)) y := ⟨_, rfl⟩
    rw [← hW] at fr_0 fr_1 fr_2 fr_3 fe_0 fe_1 fe_2 fe_3 ⊢
    have HW := Lib.hid hW
    clear hW
    go_region_held3 (fun w' => w'.cell? ⟨w.heap.size, 0, none⟩ = some (.int .u64 (n64 a)) ∧ w'.cell? ⟨w.heap.size, 1, none⟩ = some (.int .u64 (n64 b)) ∧ w'.cell? ⟨w.heap.size, 2, none⟩ = some (.int .u64 (n64 c)) ∧ w'.cell? ⟨w.heap.size, 3, none⟩ = some (.int .u64 (n64 d)) ∧ w'.cell? ⟨nr, 0, none⟩ = some (.int .u64 (n64 s0)) ∧ w'.cell? ⟨nr, 1, none⟩ = some (.int .u64 (n64 s1)) ∧ w'.cell? ⟨nr, 2, none⟩ = some (.int .u64 (n64 s2)) ∧ w'.cell? ⟨nr, 3, none⟩ = some (.int .u64 (n64 s3)))
      (refine ⟨Ext.cell (w := W) ?_ fe_0, Ext.cell (w := W) ?_ fe_1, Ext.cell (w := W) ?_ fe_2, Ext.cell (w := W) ?_ fe_3, Ext.cell (w := W) ?_ fr_0, Ext.cell (w := W) ?_ fr_1, Ext.cell (w := W) ?_ fr_2, Ext.cell (w := W) ?_ fr_3⟩ <;> (repeat (first | exact Ext.refl _ | assumption | exact grw_ext _ _ | exact ext_drew _ | exact ext_alloc _ _ | refine Ext.trans ?_ (ext_alloc _ _) | refine Ext.trans ?_ (grw_ext _ _) | refine Ext.trans ?_ (ext_drew _))))
      (first
        | (go_at_call 70; with_reducible refine (mul_any s0 s1 s2 s3 s0 s1 s2 s3 _).mono ?_; rintro e w' ⟨m0, m1, m2, m3, rfl, hm, hx⟩; obtain ⟨l', rfl⟩ := grw_of_ext hx; clear hx)
        | (go_at_call 59; with_reducible refine (out_any a b c d _).mono ?_; rintro e w' ⟨rfl, hx⟩; obtain ⟨l', rfl⟩ := grw_of_ext hx; clear hx)
        | (go_at_call 59; with_reducible refine (out_any _ _ _ _ _).mono ?_; rintro e w' ⟨rfl, hx⟩; obtain ⟨l', rfl⟩ := grw_of_ext hx; clear hx))
    all_goals
      have hW := HW.out
      clear HW fe_0 fe_1 fe_2 fe_3 fr_0 fr_1 fr_2 fr_3
      subst hW
      go_wp2
      go_meet
      case rel => exact ⟨congrArg (fun b => Value.bool (!b)) (rtOk_of (Eqp.refl _) HS.out), _, by rw [grw_drew, grw_grw]⟩
  case rest =>
  clear y
  obtain ⟨rfl, y, rfl⟩ := hcut
  obtain ⟨k, hk⟩ : ∃ k, k = rtOk (val4 a b c d) := ⟨_, rfl⟩
  rw [← hk]
  replace hk := Lib.hid hk
  cases k with
  | false =>
    go_wp2
    refine bodyPost_ret_by (by simp [results, Try.results64, go_sem]; rfl) rfl ?_
    exact ⟨0, 0, 0, 0, by rw [← hk.out]; rfl, .no hk.out, (((ext_alloc _ _).trans (ext_alloc _ _)).trans (grw_ext _ _)).trans ((ext_alloc _ _).trans (grw_ext _ _))⟩
  | true =>
    go_upto_region 7 with fail
    go_cut [7] from 36 to 38 (fun p wx => ∃ (n : Nat) (y : Nat × Array Obj) (v : UInt8), p = .pointer (some ⟨n, 0, none⟩) ∧ wx = grw ((grw ((w.alloc (.cells (w4 a b c d) 73)).alloc (.cells (w4 0 0 0 0) 73)) x).alloc (.cells (w4 s0 s1 s2 s3) 73)) y ∧ (grw ((grw ((w.alloc (.cells (w4 a b c d) 73)).alloc (.cells (w4 0 0 0 0) 73)) x).alloc (.cells (w4 s0 s1 s2 s3) 73)) y).cell? ⟨n, 0, none⟩ = some (.int .u8 (n8 v)) ∧ (v &&& 1 == 1) = decide (rtc (val4 a b c d) % (2 ^ 255 - 19) % 2 = 1))
    case first =>
      have hn := HN.out
      clear HN
      subst hn
      go_wp2_with (go_at_call 59; with_reducible refine (out_any _ _ _ _ _).mono ?_; rintro e w' ⟨rfl, hx⟩; obtain ⟨l', rfl⟩ := grw_of_ext hx; clear hx)
      go_meet
      case rel =>
        exact met_c (P := fun v => (v &&& 1 == 1) = decide (rtc (val4 a b c d) % (2 ^ 255 - 19) % 2 = 1)) (by rw [nb_odd, HS.out])
    case rest =>
    clear y
    obtain ⟨nc, y, v, rfl, rfl, hv, ho⟩ := hcut
    replace ho := Lib.hid ho
    have hn := HN.out
    clear HN
    subst hn
    cases hvo : (v &&& 1 == 1) with
    | true =>
      go_wp2_with (go_at_call 69; with_reducible refine (sub_0 _ _ _ _ _).mono ?_; rintro e w' ⟨z0, z1, z2, z3, rfl, hz, hx⟩; obtain ⟨l', rfl⟩ := grw_of_ext hx; clear hx)
      refine bodyPost_ret_by (by simp [results, Try.results64, go_sem]; rfl) rfl ?_
      exact ⟨z0, z1, z2, z3, by rw [← hk.out], .odd HS.out hz ho.out hvo, (((ext_alloc _ _).trans (ext_alloc _ _)).trans (grw_ext _ _)).trans ((ext_alloc _ _).trans (grw_ext _ _))⟩
    | false =>
      go_wp2
      refine bodyPost_ret_by (by simp [results, Try.results64, go_sem]; rfl) rfl ?_
      exact ⟨s0, s1, s2, s3, by rw [← hk.out], .even HS.out ho.out hvo, (((ext_alloc _ _).trans (ext_alloc _ _)).trans (grw_ext _ _)).trans ((ext_alloc _ _).trans (grw_ext _ _))⟩
end Go.Proofs.Ytndohjgfjbopnaa
