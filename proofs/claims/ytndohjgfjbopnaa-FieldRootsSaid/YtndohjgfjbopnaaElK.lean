/-
  Walks of the package field.
-/
import Derived.Test.YtndohjgfjbopnaaElJ
set_option linter.unusedSimpArgs false
set_option linter.unusedVariables false
namespace Go.Cv
open Go.RowKit
/-- What is owed to a number. -/
def negp (n : Nat) : Nat := 2 ^ 255 - 19 - n % (2 ^ 255 - 19)
theorem sub_eqp {s A B : Nat} (h : Eqp (s + B) A) : Eqp s (A + negp B) := by
  have hb := Nat.mod_lt B (show 2 ^ 255 - 19 > 0 by decide)
  have hd := Nat.div_add_mod B (2 ^ 255 - 19)
  have e : s + B + negp B = s + (2 ^ 255 - 19) * (B / (2 ^ 255 - 19) + 1) := by
    unfold negp
    rw [Nat.mul_add]
    omega
  have h2 := h.add (Eqp.refl (negp B))
  rw [e] at h2
  refine Eqp.tr ?_ h2
  unfold Eqp
  rw [Nat.add_mul_mod_self_left]
def pI (A : Nat) : Nat := A ^ (2 ^ 255 - 21)
theorem pI_is {r A : Nat} (h : PowIs r A (2 ^ 255 - 21)) : Eqp r (pI A) := by
  unfold PowIs at h
  unfold pI
  exact h
/-- The even root. -/
def rtv (A : Nat) : Nat := if rtc A % (2 ^ 255 - 19) % 2 = 1 then 0 + negp (rtc A) else rtc A
theorem rtv_is {A s : Nat} (h : rtOk A = true) (hs : RootIs A s) : Eqp s (rtv A) := by
  have := hs h
  unfold rtv
  split
  · rename_i h1
    rw [if_pos h1] at this
    exact sub_eqp this
  · rename_i h1
    rw [if_neg h1] at this
    exact this
/-- The error's value for nought, and for no root. -/
def errZero : Value := .iface 30 (.int .i64 28)
def errNone : Value := .iface 30 (.int .i64 9)
/-- What 32 bytes stand for. -/
def V (f : Nat → UInt8) : Nat := bsum f 32
theorem V_wd (f : Nat → UInt8) : val4 (wd f 0) (wd f 1) (wd f 2) (wd f 3) = V f := wd_val f
/-- The bytes of the least number. -/
def ob (n : Nat) : Nat → UInt8 := nb (n % (2 ^ 255 - 19))
theorem ob_of {n m : Nat} (h : Eqp n m) : ob n = ob m := by unfold ob; rw [h]
@[go_sem] theorem rowOf_drew (w : World) (n : Nat) : rowOf w.drew n = rowOf w n := rfl
@[go_sem] theorem isB_drew (w : World) (n : Nat) : isB w.drew n = isB w n := rfl
@[go_sem] theorem setRow_drew (w : World) (n : Nat) (c : Array Value) : w.drew.setRow n c = (w.setRow n c).drew := rfl
/-- A block's 32 cells. -/
def rowOpt (W : World) (n : Nat) : Option (Array Value) := match W.heap[n]? with | some (.cells c _ (0, 0)) => if c.size = 32 then some c else none | _ => none
theorem rowOpt_some {W : World} {n : Nat} {c : Array Value} (h : rowOpt W n = some c) : isB W n ∧ rowOf W n = c := by
  unfold rowOpt at h
  split at h
  · rename_i c' t hc
    split at h
    · rename_i h32
      cases h
      exact ⟨⟨c, t, hc, h32⟩, by unfold rowOf; rw [hc]⟩
    · cases h
  · cases h
@[go_sem] theorem rowOpt_at {w : World} (c : Array Value) (t : TypeId) (n : Nat) (hn : n = w.heap.size) (hc : c.size = 32) : rowOpt (w.alloc (.cells c t)) n = some c := by
  subst hn
  unfold rowOpt
  rw [heap_alloc_last]
  simp [hc]
@[go_sem] theorem rowOpt_past {w : World} (o : Obj) (n : Nat) (hn : n < w.heap.size) : rowOpt (w.alloc o) n = rowOpt w n := by
  unfold rowOpt
  rw [ext_heap (ext_alloc w o) hn]
@[go_sem] theorem rowOpt_grw {w : World} (x : Nat × Array Obj) (n : Nat) (hn : n < w.heap.size) : rowOpt (grw w x) n = rowOpt w n := by
  unfold rowOpt
  rw [ext_heap (grw_ext w x) hn]
@[go_sem] theorem rowOpt_drew (w : World) (n : Nat) : rowOpt w.drew n = rowOpt w n := rfl
@[go_sem ↓ high] theorem rowOpt_gag (B : World) (x y : Nat × Array Obj) (o : Obj) (n : Nat) (hn : n < B.heap.size) : rowOpt (grw ((grw B x).alloc o) y) n = rowOpt B n := by
  rw [rowOpt_grw _ _ (gag_lt B x o n hn), rowOpt_past _ _ (grw_lt x hn), rowOpt_grw _ _ hn]
@[go_sem ↓ high] theorem setRow_gag (B : World) (x y : Nat × Array Obj) (o : Obj) (n : Nat) (c : Array Value) (hn : n < B.heap.size) : (grw ((grw B x).alloc o) y).setRow n c = grw ((grw (B.setRow n c) x).alloc o) y := by
  rw [setRow_grw _ _ _ _ (gag_lt B x o n hn), setRow_alloc_past _ _ _ (grw_lt x hn), setRow_grw _ _ _ _ hn]
attribute [go_sem] Option.elim_some
/-- A row of 32 bytes lies there. -/
def rdB (W : World) (n : Nat) (f : Nat → UInt8) : Prop := isB W n ∧ rowOf W n = bcells f
theorem rdB.lt {W : World} {n : Nat} {f : Nat → UInt8} (h : rdB W n f) : n < W.heap.size := by
  obtain ⟨c, t, hc, _⟩ := h.1
  exact (Array.getElem?_eq_some_iff.1 hc).1
theorem rdB.ext {w w' : World} {n : Nat} {f : Nat → UInt8} (hx : Ext w w') (h : rdB w n f) : rdB w' n f := by
  have hn := h.lt
  refine ⟨?_, ?_⟩
  · have := h.1
    unfold isB at *
    rwa [ext_heap hx hn]
  · have := h.2
    unfold rowOf at *
    rwa [ext_heap hx hn]
theorem rdB.new (w : World) (f : Nat → UInt8) (T : TypeId) : rdB (w.alloc (.cells (bcells f) T)) w.heap.size f :=
  ⟨of_eq_true (isB_at _ _ _ rfl (bcells_size f)), rowOf_at _ _ _ rfl⟩
theorem rdB.new_ (w : World) (f : Nat → UInt8) (T : TypeId) {n : Nat} (h : n = w.heap.size) : rdB (w.alloc (.cells (bcells f) T)) n f := h ▸ rdB.new w f T
theorem rng_of {W : World} {n : Nat} {f : Nat → UInt8} (h : rdB W n f) : W.rangeAt n 0 (bcells f).toList := fun j v hv => by
  obtain ⟨⟨c, t, hc, h32⟩, hr⟩ := h
  have hr2 : rowOf W n = c := by unfold rowOf; rw [hc]
  rw [hr2] at hr
  subst hr
  rw [Nat.zero_add, cell_of_row _ _ j _ t (0, 0) hc]
  simpa using hv
theorem rng_ext {w w' : World} {n : Nat} {l : List Value} (hx : Ext w w') (h : w.rangeAt n 0 l) : w'.rangeAt n 0 l := fun j v hv => hx.cell (h j v hv)
end Go.Cv
namespace Go.Proofs.Ytndohjgfjbopnaa
open Go.RowKit Go.Cv

/-- 32 cells read. -/
noncomputable def ld32 (a : Addr) (W : World) : Result (Array Value) := (loadCellsFrom a 0 32 #[]).run Try.prog W
@[go_sem ↓ high] theorem run_ld32 (a : Addr) (W : World) : (loadCellsFrom a 0 32 #[]).run Try.prog W = ld32 a W := rfl
noncomputable def ld32y (n : Nat) (W : World) : Result (Array Value) := ld32 ⟨n, 0, none⟩ W
noncomputable def st32y (n : Nat) (f : Nat → UInt8) (W : World) : Result Unit := (storeCells ⟨n, 0, none⟩ (bcells f).toList).run Try.prog W
@[go_sem] theorem ld32_eq (W : World) (n : Nat) : ld32 ⟨n, 0, none⟩ W = (rowOpt W n).elim (ld32y n W) (fun c => .ok c W) := by
  cases h : rowOpt W n with
  | none => rfl
  | some c =>
    obtain ⟨hB, hr⟩ := rowOpt_some h
    rw [← hr]
    exact load_bc_any W n hB
@[go_sem ↓ high] theorem st32_eq (W : World) (n : Nat) (f : Nat → UInt8) : (storeCells ⟨n, 0, none⟩ (bcells f).toList).run Try.prog W = (rowOpt W n).elim (st32y n f W) (fun _ => .ok () (W.setRow n (bcells f))) := by
  cases h : rowOpt W n with
  | none => rfl
  | some c => exact store_bc_any W n f (rowOpt_some h).1
theorem wpList_load_bc {ops : Array Oper} {rest : List Oper} {o : Oper} {a : Act} {w : World} {Q : Exit → Act → World → Prop} (hgd : o.guard = none) (x : Operand) (ho : o.op = .load 22 x)
    (n : Nat) (hx : a.eval x = .pointer (some ⟨n, 0, none⟩)) (hB : isB w n) (f : Nat → UInt8) (hf : rowOf w n = bcells f)
    (h : wpList Try.prog ops Q rest (a.put o.dst (.agg (bcells f))) w) : wpList Try.prog ops Q (o :: rest) a w := by
  obtain ⟨c, t, hc, h32⟩ := hB
  have hr : rowOf w n = c := by unfold rowOf; rw [hc]
  rw [hr] at hf
  subst hf
  exact wpList_load_row hgd _ x ho n hx t _ (0, 0) _ hc u22 rfl (by rw [h32]; exact i22) h
theorem loadAt_bc (W : World) (n : Nat) (f : Nat → UInt8) (h : isB W n) (hf : rowOf W n = bcells f) : (Instr.loadAt 22 (.pointer (some ⟨n, 0, none⟩))).run Try.prog W = .ok (.agg (bcells f)) W := by
  rw [← hf]
  simp only [Instr.loadAt, Instr.sureAddr, Sem.run_bind, Sem.run_pure, Result.andThen]
  exact loadVar_bc W n h
theorem results_bc {fn : Func} {p : Tmp} (h : fn.results = #[.cell p 22]) (tmps : Array Value) (W : World) (n : Nat) (f : Nat → UInt8)
    (hp : tmps.getD p undef = .pointer (some ⟨n, 0, none⟩)) (hB : isB W n) (hf : rowOf W n = bcells f) : (results fn tmps).run Try.prog W = .ok (.agg (bcells f)) W := by
  obtain ⟨c, t, hc, h32⟩ := hB
  have hr : rowOf W n = c := by unfold rowOf; rw [hc]
  rw [hr] at hf
  subst hf
  exact results_cell_row h tmps W n t _ (0, 0) _ hp hc u22 rfl (by rw [h32]; exact i22)
theorem results_bc2 {fn : Func} {p u : Tmp} (h : fn.results = #[.cell p 22, .tmp u]) (tmps : Array Value) (W : World) (n : Nat) (f : Nat → UInt8)
    (hp : tmps.getD p undef = .pointer (some ⟨n, 0, none⟩)) (hB : isB W n) (hf : rowOf W n = bcells f) : (results fn tmps).run Try.prog W = .ok (.tuple #[.agg (bcells f), tmps.getD u undef]) W := by
  have hl := loadVar_bc W n hB
  rw [hf] at hl
  rw [results_cell_tmp h, hp]
  simp [asAddr, Result.andThen, hl]
theorem root_f (f : Nat → UInt8) (w : World) :
    Calls Try.prog 64 #[el (wd f 0) (wd f 1) (wd f 2) (wd f 3)] w fun e w' => ∃ s0 s1 s2 s3, e = .returned (.tuple #[el s0 s1 s2 s3, .bool (rtOk (V f))]) ∧
      RootIs (V f) (val4 s0 s1 s2 s3) ∧ Ext w w' := by
  have h := root_any (wd f 0) (wd f 1) (wd f 2) (wd f 3) w
  rw [V_wd] at h
  exact h
theorem out_ob (a b c d : UInt64) (w : World) :
    Calls Try.prog 59 #[el a b c d] w fun e w' => e = .returned (.agg (bcells (ob (val4 a b c d)))) ∧ Ext w w' := out_any a b c d w

set_option maxHeartbeats 800000 in
theorem fin_any (f : Nat → UInt8) (w : World) :
    Calls Try.prog 57 #[.agg (bcells f)] w fun e w' => e = .returned (el (wd f 0) (wd f 1) (wd f 2) (wd f 3)) ∧ Ext w w' := by
  go_enter Try.func57, Try.ntmps57
  go_wp2_with (first | ((with_reducible refine wpList_load_bc ?_ (.tmp 1) ?_ w.heap.size ?_ ?_ f ?_ ?_); rfl; rfl; rfl; (simp [go_sem]); (simp [go_sem])) | (go_at_call 71; with_reducible refine (in_any _ _).mono ?_; rintro e w' ⟨rfl, hx⟩; obtain ⟨l', rfl⟩ := grw_of_ext hx; clear hx))
  refine bodyPost_ret_by (by simp [results, Try.results57, go_sem]; rfl) rfl ?_
  exact ⟨rfl, ((ext_alloc _ _).trans (ext_alloc _ _)).trans (grw_ext _ _)⟩

set_option maxHeartbeats 800000 in
theorem reduce_any (f : Nat → UInt8) (w : World) :
    Calls Try.prog 27 #[.agg (bcells f)] w fun e w' => e = .returned (.agg (bcells (ob (V f)))) ∧ Ext w w' := by
  go_enter Try.func27, Try.ntmps27
  go_wp2_with (first | ((with_reducible refine wpList_load_bc ?_ (.tmp 1) ?_ w.heap.size ?_ ?_ f ?_ ?_); rfl; rfl; rfl; (simp [go_sem]); (simp [go_sem])) | (go_at_call 57; with_reducible refine (fin_any _ _).mono ?_; rintro e w' ⟨rfl, hx⟩; obtain ⟨l', rfl⟩ := grw_of_ext hx; clear hx) | (go_at_call 59; with_reducible refine (out_ob _ _ _ _ _).mono ?_; rintro e w' ⟨rfl, hx⟩; obtain ⟨l', rfl⟩ := grw_of_ext hx; clear hx))
  refine bodyPost_ret (results_bc (p := 2) rfl _ _ (w.heap.size + 1) (ob (V f)) ?_ ?_ ?_) rfl ⟨rfl, ((ext_alloc _ _).trans (ext_alloc _ _)).trans (grw_ext _ _)⟩
  · rfl
  · simp [go_sem]
  · simp [go_sem, V_wd]

set_option maxRecDepth 10000 in
set_option maxHeartbeats 1600000 in
theorem fadd_any (f g : Nat → UInt8) (w : World) :
    Calls Try.prog 21 #[.agg (bcells f), .agg (bcells g)] w fun e w' => e = .returned (.agg (bcells (ob (V f + V g)))) ∧ Ext w w' := by
  go_enter Try.func21, Try.ntmps21
  go_upto_region 1 with fail
  obtain ⟨W, hW⟩ : ∃ W, W = ((w.alloc (.cells (bcells f) 22)).alloc (.cells (bcells g) 22)).alloc (.cells (bcells fun _ => 0) 22) := ⟨_, rfl⟩
  rw [← hW]
  have h1 : rdB W w.heap.size f := by rw [hW]; exact ((rdB.new _ _ _).ext (ext_alloc _ _)).ext (ext_alloc _ _)
  have h2 : rdB W (w.heap.size + 1) g := by rw [hW]; exact (rdB.new_ _ _ _ (by simp)).ext (ext_alloc _ _)
  have HW := Lib.hid hW
  clear hW
  have hW := HW.out
  clear HW h1 h2
  subst hW
  go_region_with
    (first
      | (go_at_call 57; with_reducible refine (fin_any _ _).mono ?_; rintro e w' ⟨rfl, hx⟩; obtain ⟨l', rfl⟩ := grw_of_ext hx; clear hx)
      | (go_at_call 67; with_reducible refine (add_any _ _ _ _ _ _ _ _ _).mono ?_; rintro e w' ⟨s0, s1, s2, s3, rfl, hs, hx⟩; obtain ⟨l', rfl⟩ := grw_of_ext hx; clear hx)
      | (go_at_call 59; with_reducible refine (out_ob _ _ _ _ _).mono ?_; rintro e w' ⟨rfl, hx⟩; obtain ⟨l', rfl⟩ := grw_of_ext hx; clear hx))
  all_goals
    go_wp2
    refine bodyPost_ret_by (by simp [results, Try.results21, go_sem]; rfl) rfl ?_
    rw [V_wd, V_wd] at hs
    exact ⟨by rw [ob_of (hs)], ((((ext_alloc _ _).trans (ext_alloc _ _)).trans (ext_alloc _ _)).trans (ext_drew _)).trans (grw_ext _ _)⟩


set_option maxRecDepth 10000 in
set_option maxHeartbeats 1600000 in
theorem fmul_any (f g : Nat → UInt8) (w : World) :
    Calls Try.prog 25 #[.agg (bcells f), .agg (bcells g)] w fun e w' => e = .returned (.agg (bcells (ob (V f * V g)))) ∧ Ext w w' := by
  go_enter Try.func25, Try.ntmps25
  go_upto_region 1 with fail
  obtain ⟨W, hW⟩ : ∃ W, W = ((w.alloc (.cells (bcells f) 22)).alloc (.cells (bcells g) 22)).alloc (.cells (bcells fun _ => 0) 22) := ⟨_, rfl⟩
  rw [← hW]
  have h1 : rdB W w.heap.size f := by rw [hW]; exact ((rdB.new _ _ _).ext (ext_alloc _ _)).ext (ext_alloc _ _)
  have h2 : rdB W (w.heap.size + 1) g := by rw [hW]; exact (rdB.new_ _ _ _ (by simp)).ext (ext_alloc _ _)
  have HW := Lib.hid hW
  clear hW
  have hW := HW.out
  clear HW h1 h2
  subst hW
  go_region_with
    (first
      | (go_at_call 57; with_reducible refine (fin_any _ _).mono ?_; rintro e w' ⟨rfl, hx⟩; obtain ⟨l', rfl⟩ := grw_of_ext hx; clear hx)
      | (go_at_call 70; with_reducible refine (mul_any _ _ _ _ _ _ _ _ _).mono ?_; rintro e w' ⟨s0, s1, s2, s3, rfl, hs, hx⟩; obtain ⟨l', rfl⟩ := grw_of_ext hx; clear hx)
      | (go_at_call 59; with_reducible refine (out_ob _ _ _ _ _).mono ?_; rintro e w' ⟨rfl, hx⟩; obtain ⟨l', rfl⟩ := grw_of_ext hx; clear hx))
  all_goals
    go_wp2
    refine bodyPost_ret_by (by simp [results, Try.results25, go_sem]; rfl) rfl ?_
    rw [V_wd, V_wd] at hs
    exact ⟨by rw [ob_of (hs)], ((((ext_alloc _ _).trans (ext_alloc _ _)).trans (ext_alloc _ _)).trans (ext_drew _)).trans (grw_ext _ _)⟩


set_option maxRecDepth 10000 in
set_option maxHeartbeats 1600000 in
theorem fsub_any (f g : Nat → UInt8) (w : World) :
    Calls Try.prog 23 #[.agg (bcells f), .agg (bcells g)] w fun e w' => e = .returned (.agg (bcells (ob (V f + negp (V g))))) ∧ Ext w w' := by
  go_enter Try.func23, Try.ntmps23
  go_upto_region 1 with fail
  obtain ⟨W, hW⟩ : ∃ W, W = ((w.alloc (.cells (bcells f) 22)).alloc (.cells (bcells g) 22)).alloc (.cells (bcells fun _ => 0) 22) := ⟨_, rfl⟩
  rw [← hW]
  have h1 : rdB W w.heap.size f := by rw [hW]; exact ((rdB.new _ _ _).ext (ext_alloc _ _)).ext (ext_alloc _ _)
  have h2 : rdB W (w.heap.size + 1) g := by rw [hW]; exact (rdB.new_ _ _ _ (by simp)).ext (ext_alloc _ _)
  have HW := Lib.hid hW
  clear hW
  have hW := HW.out
  clear HW h1 h2
  subst hW
  go_region_with
    (first
      | (go_at_call 57; with_reducible refine (fin_any _ _).mono ?_; rintro e w' ⟨rfl, hx⟩; obtain ⟨l', rfl⟩ := grw_of_ext hx; clear hx)
      | (go_at_call 69; with_reducible refine (sub_any _ _ _ _ _ _ _ _ _).mono ?_; rintro e w' ⟨s0, s1, s2, s3, rfl, hs, hx⟩; obtain ⟨l', rfl⟩ := grw_of_ext hx; clear hx)
      | (go_at_call 59; with_reducible refine (out_ob _ _ _ _ _).mono ?_; rintro e w' ⟨rfl, hx⟩; obtain ⟨l', rfl⟩ := grw_of_ext hx; clear hx))
  all_goals
    go_wp2
    refine bodyPost_ret_by (by simp [results, Try.results23, go_sem]; rfl) rfl ?_
    rw [V_wd, V_wd] at hs
    exact ⟨by rw [ob_of (sub_eqp hs)], ((((ext_alloc _ _).trans (ext_alloc _ _)).trans (ext_alloc _ _)).trans (ext_drew _)).trans (grw_ext _ _)⟩

theorem err_test (n : Nat) : beqb (ob n) (fun _ => 0) = decide (Eqp n 0) := by
  rw [show (fun _ => (0 : UInt8)) = nb (0 % (2 ^ 255 - 19)) from funext fun j => by unfold nb; rw [Nat.zero_mod, Nat.zero_div]; rfl]
  exact beqb_mod n 0

set_option maxHeartbeats 1600000 in
theorem finv_zero (f : Nat → UInt8) (h : Eqp (V f) 0) (w : World) :
    Calls Try.prog 14 #[.agg (bcells f)] w fun e w' => e = .returned (.tuple #[.agg (bcells fun _ => 0), errZero]) ∧ Ext w w' := by
  have ht : beqb (ob (V f)) (fun _ => 0) = true := by rw [err_test]; exact decide_eq_true h
  clear h
  go_enter Try.func14, Try.ntmps14
  go_wp2_with (go_at_call 27; with_reducible refine (reduce_any _ _).mono ?_; rintro e w' ⟨rfl, hx⟩; obtain ⟨l', rfl⟩ := grw_of_ext hx; clear hx)
  refine bodyPost_ret_by (by simp [results, Try.results14, go_sem]; rfl) rfl ?_
  exact ⟨rfl, ((ext_alloc _ _).trans (ext_alloc _ _)).trans (grw_ext _ _)⟩

set_option maxHeartbeats 1600000 in
theorem finv_some (f : Nat → UInt8) (h : ¬ Eqp (V f) 0) (w : World) :
    Calls Try.prog 14 #[.agg (bcells f)] w fun e w' => e = .returned (.tuple #[.agg (bcells (ob (pI (V f)))), .nilIface]) ∧ Ext w w' := by
  have ht : beqb (ob (V f)) (fun _ => 0) = false := by rw [err_test]; exact decide_eq_false h
  clear h
  go_enter Try.func14, Try.ntmps14
  go_wp2_with (first | (go_at_call 27; with_reducible refine (reduce_any _ _).mono ?_; rintro e w' ⟨rfl, hx⟩; obtain ⟨l', rfl⟩ := grw_of_ext hx; clear hx) | (go_at_call 57; with_reducible refine (fin_any _ _).mono ?_; rintro e w' ⟨rfl, hx⟩; obtain ⟨l', rfl⟩ := grw_of_ext hx; clear hx) | (go_at_call 58; with_reducible refine (inv_any _ _ _ _ _).mono ?_; rintro e w' ⟨s0, s1, s2, s3, rfl, hs, hx⟩; obtain ⟨l', rfl⟩ := grw_of_ext hx; clear hx) | (go_at_call 59; with_reducible refine (out_ob _ _ _ _ _).mono ?_; rintro e w' ⟨rfl, hx⟩; obtain ⟨l', rfl⟩ := grw_of_ext hx; clear hx))
  refine bodyPost_ret_by (by simp [results, Try.results14, go_sem]; rfl) rfl ?_
  rw [V_wd] at hs
  exact ⟨by rw [ob_of (pI_is hs)], ((ext_alloc _ _).trans (ext_alloc _ _)).trans (grw_ext _ _)⟩

set_option maxHeartbeats 1600000 in
theorem froot_no (f : Nat → UInt8) (h : rtOk (V f) = false) (w : World) :
    Calls Try.prog 19 #[.agg (bcells f)] w fun e w' => e = .returned (.tuple #[.agg (bcells fun _ => 0), errNone]) ∧ Ext w w' := by
  go_enter Try.func19, Try.ntmps19
  go_wp2_with (first | (go_at_call 57; with_reducible refine (fin_any _ _).mono ?_; rintro e w' ⟨rfl, hx⟩; obtain ⟨l', rfl⟩ := grw_of_ext hx; clear hx) | (go_at_call 64; with_reducible refine (root_f _ _).mono ?_; rintro e w' ⟨s0, s1, s2, s3, rfl, hs, hx⟩; obtain ⟨l', rfl⟩ := grw_of_ext hx; clear hx) | (go_at_call 59; with_reducible refine (out_ob _ _ _ _ _).mono ?_; rintro e w' ⟨rfl, hx⟩; obtain ⟨l', rfl⟩ := grw_of_ext hx; clear hx))
  refine bodyPost_ret_by (by simp [results, Try.results19, go_sem]; rfl) rfl ?_
  exact ⟨rfl, by (repeat (first | exact Ext.refl _ | assumption | exact grw_ext _ _ | exact ext_drew _ | exact ext_alloc _ _ | refine Ext.trans ?_ (ext_alloc _ _) | refine Ext.trans ?_ (grw_ext _ _) | refine Ext.trans ?_ (ext_drew _)))⟩

set_option maxHeartbeats 1600000 in
theorem froot_ok (f : Nat → UInt8) (h : rtOk (V f) = true) (w : World) :
    Calls Try.prog 19 #[.agg (bcells f)] w fun e w' => e = .returned (.tuple #[.agg (bcells (ob (rtv (V f)))), .nilIface]) ∧ Ext w w' := by
  go_enter Try.func19, Try.ntmps19
  go_wp2_with (first | (go_at_call 57; with_reducible refine (fin_any _ _).mono ?_; rintro e w' ⟨rfl, hx⟩; obtain ⟨l', rfl⟩ := grw_of_ext hx; clear hx) | (go_at_call 64; with_reducible refine (root_f _ _).mono ?_; rintro e w' ⟨s0, s1, s2, s3, rfl, hs, hx⟩; obtain ⟨l', rfl⟩ := grw_of_ext hx; clear hx) | (go_at_call 59; with_reducible refine (out_ob _ _ _ _ _).mono ?_; rintro e w' ⟨rfl, hx⟩; obtain ⟨l', rfl⟩ := grw_of_ext hx; clear hx))
  refine bodyPost_ret_by (by simp [results, Try.results19, go_sem]; rfl) rfl ?_
  exact ⟨by rw [ob_of (rtv_is h hs)], by (repeat (first | exact Ext.refl _ | assumption | exact grw_ext _ _ | exact ext_drew _ | exact ext_alloc _ _ | refine Ext.trans ?_ (ext_alloc _ _) | refine Ext.trans ?_ (grw_ext _ _) | refine Ext.trans ?_ (ext_drew _)))⟩
end Go.Proofs.Ytndohjgfjbopnaa
