import Derived.Test.YtndohjgfjbopnaaEC
import Derived.OrdersHeld
section
/-
  Walks of the package field.
-/
set_option linter.unusedSimpArgs false
set_option linter.unusedVariables false
namespace Go.Cv
open Go.RowKit
/-- What is owed to a number. -/
def negp (n : Nat) : Nat := 2 ^ 255 - 19 - n % (2 ^ 255 - 19)
theorem sub_eqp {s A B : Nat} (h : Eqp (s + B) A) : Eqp s (A + negp B) := by
  have hb := Nat.mod_lt B (show 2 ^ 255 - 19 > 0 by decide)
  have hd := Nat.div_add_mod B (2 ^ 255 - 19)
  have e : s + B + negp B = s + (2 ^ 255 - 19) * (B / (2 ^ 255 - 19) + 1) := by
    unfold negp
    rw [Nat.mul_add]
    omega
  have h2 := h.add (Eqp.refl (negp B))
  rw [e] at h2
  refine Eqp.tr ?_ h2
  unfold Eqp
  rw [Nat.add_mul_mod_self_left]
def pI (A : Nat) : Nat := A ^ (2 ^ 255 - 21)
theorem pI_is {r A : Nat} (h : PowIs r A (2 ^ 255 - 21)) : Eqp r (pI A) := by
  unfold PowIs at h
  unfold pI
  exact h
/-- The even root. -/
def rtv (A : Nat) : Nat := if rtc A % (2 ^ 255 - 19) % 2 = 1 then 0 + negp (rtc A) else rtc A
theorem rtv_is {A s : Nat} (h : rtOk A = true) (hs : RootIs A s) : Eqp s (rtv A) := by
  have := hs h
  unfold rtv
  split
  · rename_i h1
    rw [if_pos h1] at this
    exact sub_eqp this
  · rename_i h1
    rw [if_neg h1] at this
    exact this
/-- The error's value for nought, and for no root. -/
def errZero : Value := .iface 30 (.int .i64 28)
def errNone : Value := .iface 30 (.int .i64 9)
/-- What 32 bytes stand for. -/
def V (f : Nat → UInt8) : Nat := bsum f 32
theorem V_wd (f : Nat → UInt8) : val4 (wd f 0) (wd f 1) (wd f 2) (wd f 3) = V f := wd_val f
/-- The bytes of the least number. -/
def ob (n : Nat) : Nat → UInt8 := nb (n % (2 ^ 255 - 19))
theorem ob_of {n m : Nat} (h : Eqp n m) : ob n = ob m := by unfold ob; rw [h]
@[go_sem] theorem rowOf_drew (w : World) (n : Nat) : rowOf w.drew n = rowOf w n := rfl
@[go_sem] theorem isB_drew (w : World) (n : Nat) : isB w.drew n = isB w n := rfl
@[go_sem] theorem setRow_drew (w : World) (n : Nat) (c : Array Value) : w.drew.setRow n c = (w.setRow n c).drew := rfl
/-- A block's 32 cells. -/
def rowOpt (W : World) (n : Nat) : Option (Array Value) := match W.heap[n]? with | some (.cells c _ (0, 0)) => if c.size = 32 then some c else none | _ => none
theorem rowOpt_some {W : World} {n : Nat} {c : Array Value} (h : rowOpt W n = some c) : isB W n ∧ rowOf W n = c := by
  unfold rowOpt at h
  split at h
  · rename_i c' t hc
    split at h
    · rename_i h32
      cases h
      exact ⟨⟨c, t, hc, h32⟩, by unfold rowOf; rw [hc]⟩
    · cases h
  · cases h
@[go_sem] theorem rowOpt_at {w : World} (c : Array Value) (t : TypeId) (n : Nat) (hn : n = w.heap.size) (hc : c.size = 32) : rowOpt (w.alloc (.cells c t)) n = some c := by
  subst hn
  unfold rowOpt
  rw [heap_alloc_last]
  simp [hc]
@[go_sem] theorem rowOpt_past {w : World} (o : Obj) (n : Nat) (hn : n < w.heap.size) : rowOpt (w.alloc o) n = rowOpt w n := by
  unfold rowOpt
  rw [ext_heap (ext_alloc w o) hn]
@[go_sem] theorem rowOpt_grw {w : World} (x : Nat × Array Obj) (n : Nat) (hn : n < w.heap.size) : rowOpt (grw w x) n = rowOpt w n := by
  unfold rowOpt
  rw [ext_heap (grw_ext w x) hn]
@[go_sem] theorem rowOpt_drew (w : World) (n : Nat) : rowOpt w.drew n = rowOpt w n := rfl
@[go_sem ↓ high] theorem rowOpt_gag (B : World) (x y : Nat × Array Obj) (o : Obj) (n : Nat) (hn : n < B.heap.size) : rowOpt (grw ((grw B x).alloc o) y) n = rowOpt B n := by
  rw [rowOpt_grw _ _ (gag_lt B x o n hn), rowOpt_past _ _ (grw_lt x hn), rowOpt_grw _ _ hn]
@[go_sem ↓ high] theorem setRow_gag (B : World) (x y : Nat × Array Obj) (o : Obj) (n : Nat) (c : Array Value) (hn : n < B.heap.size) : (grw ((grw B x).alloc o) y).setRow n c = grw ((grw (B.setRow n c) x).alloc o) y := by
  rw [setRow_grw _ _ _ _ (gag_lt B x o n hn), setRow_alloc_past _ _ _ (grw_lt x hn), setRow_grw _ _ _ _ hn]
attribute [go_sem] Option.elim_some
/-- A row of 32 bytes lies there. -/
def rdB (W : World) (n : Nat) (f : Nat → UInt8) : Prop := isB W n ∧ rowOf W n = bcells f
theorem rdB.lt {W : World} {n : Nat} {f : Nat → UInt8} (h : rdB W n f) : n < W.heap.size := by
  obtain ⟨c, t, hc, _⟩ := h.1
  exact (Array.getElem?_eq_some_iff.1 hc).1
theorem rdB.ext {w w' : World} {n : Nat} {f : Nat → UInt8} (hx : Ext w w') (h : rdB w n f) : rdB w' n f := by
  have hn := h.lt
  refine ⟨?_, ?_⟩
  · have := h.1
    unfold isB at *
    rwa [ext_heap hx hn]
  · have := h.2
    unfold rowOf at *
    rwa [ext_heap hx hn]
theorem rdB.new (w : World) (f : Nat → UInt8) (T : TypeId) : rdB (w.alloc (.cells (bcells f) T)) w.heap.size f :=
  ⟨of_eq_true (isB_at _ _ _ rfl (bcells_size f)), rowOf_at _ _ _ rfl⟩
theorem rdB.new_ (w : World) (f : Nat → UInt8) (T : TypeId) {n : Nat} (h : n = w.heap.size) : rdB (w.alloc (.cells (bcells f) T)) n f := h ▸ rdB.new w f T
theorem rng_of {W : World} {n : Nat} {f : Nat → UInt8} (h : rdB W n f) : W.rangeAt n 0 (bcells f).toList := fun j v hv => by
  obtain ⟨⟨c, t, hc, h32⟩, hr⟩ := h
  have hr2 : rowOf W n = c := by unfold rowOf; rw [hc]
  rw [hr2] at hr
  subst hr
  rw [Nat.zero_add, cell_of_row _ _ j _ t (0, 0) hc]
  simpa using hv
theorem rng_ext {w w' : World} {n : Nat} {l : List Value} (hx : Ext w w') (h : w.rangeAt n 0 l) : w'.rangeAt n 0 l := fun j v hv => hx.cell (h j v hv)
end Go.Cv
namespace Go.Proofs.Ytndohjgfjbopnaa
open Go.RowKit Go.Cv

/-- 32 cells read. -/
noncomputable def ld32 (a : Addr) (W : World) : Result (Array Value) := (loadCellsFrom a 0 32 #[]).run Try.prog W
@[go_sem ↓ high] theorem run_ld32 (a : Addr) (W : World) : (loadCellsFrom a 0 32 #[]).run Try.prog W = ld32 a W := rfl
noncomputable def ld32y (n : Nat) (W : World) : Result (Array Value) := ld32 ⟨n, 0, none⟩ W
noncomputable def st32y (n : Nat) (f : Nat → UInt8) (W : World) : Result Unit := (storeCells ⟨n, 0, none⟩ (bcells f).toList).run Try.prog W
@[go_sem] theorem ld32_eq (W : World) (n : Nat) : ld32 ⟨n, 0, none⟩ W = (rowOpt W n).elim (ld32y n W) (fun c => .ok c W) := by
  cases h : rowOpt W n with
  | none => rfl
  | some c =>
    obtain ⟨hB, hr⟩ := rowOpt_some h
    rw [← hr]
    exact load_bc_any W n hB
@[go_sem ↓ high] theorem st32_eq (W : World) (n : Nat) (f : Nat → UInt8) : (storeCells ⟨n, 0, none⟩ (bcells f).toList).run Try.prog W = (rowOpt W n).elim (st32y n f W) (fun _ => .ok () (W.setRow n (bcells f))) := by
  cases h : rowOpt W n with
  | none => rfl
  | some c => exact store_bc_any W n f (rowOpt_some h).1
theorem wpList_load_bc {ops : Array Oper} {rest : List Oper} {o : Oper} {a : Act} {w : World} {Q : Exit → Act → World → Prop} (hgd : o.guard = none) (x : Operand) (ho : o.op = .load 22 x)
    (n : Nat) (hx : a.eval x = .pointer (some ⟨n, 0, none⟩)) (hB : isB w n) (f : Nat → UInt8) (hf : rowOf w n = bcells f)
    (h : wpList Try.prog ops Q rest (a.put o.dst (.agg (bcells f))) w) : wpList Try.prog ops Q (o :: rest) a w := by
  obtain ⟨c, t, hc, h32⟩ := hB
  have hr : rowOf w n = c := by unfold rowOf; rw [hc]
  rw [hr] at hf
  subst hf
  exact wpList_load_row hgd _ x ho n hx t _ (0, 0) _ hc u22 rfl (by rw [h32]; exact i22) h
theorem loadAt_bc (W : World) (n : Nat) (f : Nat → UInt8) (h : isB W n) (hf : rowOf W n = bcells f) : (Instr.loadAt 22 (.pointer (some ⟨n, 0, none⟩))).run Try.prog W = .ok (.agg (bcells f)) W := by
  rw [← hf]
  simp only [Instr.loadAt, Instr.sureAddr, Sem.run_bind, Sem.run_pure, Result.andThen]
  exact loadVar_bc W n h
theorem results_bc {fn : Func} {p : Tmp} (h : fn.results = #[.cell p 22]) (tmps : Array Value) (W : World) (n : Nat) (f : Nat → UInt8)
    (hp : tmps.getD p undef = .pointer (some ⟨n, 0, none⟩)) (hB : isB W n) (hf : rowOf W n = bcells f) : (results fn tmps).run Try.prog W = .ok (.agg (bcells f)) W := by
  obtain ⟨c, t, hc, h32⟩ := hB
  have hr : rowOf W n = c := by unfold rowOf; rw [hc]
  rw [hr] at hf
  subst hf
  exact results_cell_row h tmps W n t _ (0, 0) _ hp hc u22 rfl (by rw [h32]; exact i22)
theorem results_bc2 {fn : Func} {p u : Tmp} (h : fn.results = #[.cell p 22, .tmp u]) (tmps : Array Value) (W : World) (n : Nat) (f : Nat → UInt8)
    (hp : tmps.getD p undef = .pointer (some ⟨n, 0, none⟩)) (hB : isB W n) (hf : rowOf W n = bcells f) : (results fn tmps).run Try.prog W = .ok (.tuple #[.agg (bcells f), tmps.getD u undef]) W := by
  have hl := loadVar_bc W n hB
  rw [hf] at hl
  rw [results_cell_tmp h, hp]
  simp [asAddr, Result.andThen, hl]
theorem root_f (f : Nat → UInt8) (w : World) :
    Calls Try.prog 64 #[el (wd f 0) (wd f 1) (wd f 2) (wd f 3)] w fun e w' => ∃ s0 s1 s2 s3, e = .returned (.tuple #[el s0 s1 s2 s3, .bool (rtOk (V f))]) ∧
      RootIs (V f) (val4 s0 s1 s2 s3) ∧ Ext w w' := by
  have h := root_any (wd f 0) (wd f 1) (wd f 2) (wd f 3) w
  rw [V_wd] at h
  exact h
theorem out_ob (a b c d : UInt64) (w : World) :
    Calls Try.prog 59 #[el a b c d] w fun e w' => e = .returned (.agg (bcells (ob (val4 a b c d)))) ∧ Ext w w' := out_any a b c d w

set_option maxHeartbeats 800000 in
theorem fin_any (f : Nat → UInt8) (w : World) :
    Calls Try.prog 57 #[.agg (bcells f)] w fun e w' => e = .returned (el (wd f 0) (wd f 1) (wd f 2) (wd f 3)) ∧ Ext w w' := by
  go_enter Try.func57, Try.ntmps57
  go_wp2_with (first | ((with_reducible refine wpList_load_bc ?_ (.tmp 1) ?_ w.heap.size ?_ ?_ f ?_ ?_); rfl; rfl; rfl; (simp [go_sem]); (simp [go_sem])) | (go_at_call 71; with_reducible refine (in_any _ _).mono ?_; rintro e w' ⟨rfl, hx⟩; obtain ⟨l', rfl⟩ := grw_of_ext hx; clear hx))
  refine bodyPost_ret_by (by simp [results, Try.results57, go_sem]; rfl) rfl ?_
  exact ⟨rfl, ((ext_alloc _ _).trans (ext_alloc _ _)).trans (grw_ext _ _)⟩

set_option maxHeartbeats 800000 in
theorem reduce_any (f : Nat → UInt8) (w : World) :
    Calls Try.prog 27 #[.agg (bcells f)] w fun e w' => e = .returned (.agg (bcells (ob (V f)))) ∧ Ext w w' := by
  go_enter Try.func27, Try.ntmps27
  go_wp2_with (first | ((with_reducible refine wpList_load_bc ?_ (.tmp 1) ?_ w.heap.size ?_ ?_ f ?_ ?_); rfl; rfl; rfl; (simp [go_sem]); (simp [go_sem])) | (go_at_call 57; with_reducible refine (fin_any _ _).mono ?_; rintro e w' ⟨rfl, hx⟩; obtain ⟨l', rfl⟩ := grw_of_ext hx; clear hx) | (go_at_call 59; with_reducible refine (out_ob _ _ _ _ _).mono ?_; rintro e w' ⟨rfl, hx⟩; obtain ⟨l', rfl⟩ := grw_of_ext hx; clear hx))
  refine bodyPost_ret (results_bc (p := 2) rfl _ _ (w.heap.size + 1) (ob (V f)) ?_ ?_ ?_) rfl ⟨rfl, ((ext_alloc _ _).trans (ext_alloc _ _)).trans (grw_ext _ _)⟩
  · rfl
  · simp [go_sem]
  · simp [go_sem, V_wd]

set_option maxRecDepth 10000 in
set_option maxHeartbeats 1600000 in
theorem fadd_any (f g : Nat → UInt8) (w : World) :
    Calls Try.prog 21 #[.agg (bcells f), .agg (bcells g)] w fun e w' => e = .returned (.agg (bcells (ob (V f + V g)))) ∧ Ext w w' := by
  go_enter Try.func21, Try.ntmps21
  go_upto_region 1 with fail
  obtain ⟨W, hW⟩ : ∃ W, W = ((w.alloc (.cells (bcells f) 22)).alloc (.cells (bcells g) 22)).alloc (.cells (bcells fun _ => 0) 22) := ⟨_, rfl⟩
  rw [← hW]
  have h1 : rdB W w.heap.size f := by rw [hW]; exact ((rdB.new _ _ _).ext (ext_alloc _ _)).ext (ext_alloc _ _)
  have h2 : rdB W (w.heap.size + 1) g := by rw [hW]; exact (rdB.new_ _ _ _ (by simp)).ext (ext_alloc _ _)
  have HW := Lib.hid hW
  clear hW
  have hW := HW.out
  clear HW h1 h2
  subst hW
  go_region_with
    (first
      | (go_at_call 57; with_reducible refine (fin_any _ _).mono ?_; rintro e w' ⟨rfl, hx⟩; obtain ⟨l', rfl⟩ := grw_of_ext hx; clear hx)
      | (go_at_call 67; with_reducible refine (add_any _ _ _ _ _ _ _ _ _).mono ?_; rintro e w' ⟨s0, s1, s2, s3, rfl, hs, hx⟩; obtain ⟨l', rfl⟩ := grw_of_ext hx; clear hx)
      | (go_at_call 59; with_reducible refine (out_ob _ _ _ _ _).mono ?_; rintro e w' ⟨rfl, hx⟩; obtain ⟨l', rfl⟩ := grw_of_ext hx; clear hx))
  all_goals
    go_wp2
    refine bodyPost_ret_by (by simp [results, Try.results21, go_sem]; rfl) rfl ?_
    rw [V_wd, V_wd] at hs
    exact ⟨by rw [ob_of (hs)], ((((ext_alloc _ _).trans (ext_alloc _ _)).trans (ext_alloc _ _)).trans (ext_drew _)).trans (grw_ext _ _)⟩


set_option maxRecDepth 10000 in
set_option maxHeartbeats 1600000 in
theorem fmul_any (f g : Nat → UInt8) (w : World) :
    Calls Try.prog 25 #[.agg (bcells f), .agg (bcells g)] w fun e w' => e = .returned (.agg (bcells (ob (V f * V g)))) ∧ Ext w w' := by
  go_enter Try.func25, Try.ntmps25
  go_upto_region 1 with fail
  obtain ⟨W, hW⟩ : ∃ W, W = ((w.alloc (.cells (bcells f) 22)).alloc (.cells (bcells g) 22)).alloc (.cells (bcells fun _ => 0) 22) := ⟨_, rfl⟩
  rw [← hW]
  have h1 : rdB W w.heap.size f := by rw [hW]; exact ((rdB.new _ _ _).ext (ext_alloc _ _)).ext (ext_alloc _ _)
  have h2 : rdB W (w.heap.size + 1) g := by rw [hW]; exact (rdB.new_ _ _ _ (by simp)).ext (ext_alloc _ _)
  have HW := Lib.hid hW
  clear hW
  have hW := HW.out
  clear HW h1 h2
  subst hW
  go_region_with
    (first
      | (go_at_call 57; with_reducible refine (fin_any _ _).mono ?_; rintro e w' ⟨rfl, hx⟩; obtain ⟨l', rfl⟩ := grw_of_ext hx; clear hx)
      | (go_at_call 70; with_reducible refine (mul_any _ _ _ _ _ _ _ _ _).mono ?_; rintro e w' ⟨s0, s1, s2, s3, rfl, hs, hx⟩; obtain ⟨l', rfl⟩ := grw_of_ext hx; clear hx)
      | (go_at_call 59; with_reducible refine (out_ob _ _ _ _ _).mono ?_; rintro e w' ⟨rfl, hx⟩; obtain ⟨l', rfl⟩ := grw_of_ext hx; clear hx))
  all_goals
    go_wp2
    refine bodyPost_ret_by (by simp [results, Try.results25, go_sem]; rfl) rfl ?_
    rw [V_wd, V_wd] at hs
    exact ⟨by rw [ob_of (hs)], ((((ext_alloc _ _).trans (ext_alloc _ _)).trans (ext_alloc _ _)).trans (ext_drew _)).trans (grw_ext _ _)⟩


set_option maxRecDepth 10000 in
set_option maxHeartbeats 1600000 in
theorem fsub_any (f g : Nat → UInt8) (w : World) :
    Calls Try.prog 23 #[.agg (bcells f), .agg (bcells g)] w fun e w' => e = .returned (.agg (bcells (ob (V f + negp (V g))))) ∧ Ext w w' := by
  go_enter Try.func23, Try.ntmps23
  go_upto_region 1 with fail
  obtain ⟨W, hW⟩ : ∃ W, W = ((w.alloc (.cells (bcells f) 22)).alloc (.cells (bcells g) 22)).alloc (.cells (bcells fun _ => 0) 22) := ⟨_, rfl⟩
  rw [← hW]
  have h1 : rdB W w.heap.size f := by rw [hW]; exact ((rdB.new _ _ _).ext (ext_alloc _ _)).ext (ext_alloc _ _)
  have h2 : rdB W (w.heap.size + 1) g := by rw [hW]; exact (rdB.new_ _ _ _ (by simp)).ext (ext_alloc _ _)
  have HW := Lib.hid hW
  clear hW
  have hW := HW.out
  clear HW h1 h2
  subst hW
  go_region_with
    (first
      | (go_at_call 57; with_reducible refine (fin_any _ _).mono ?_; rintro e w' ⟨rfl, hx⟩; obtain ⟨l', rfl⟩ := grw_of_ext hx; clear hx)
      | (go_at_call 69; with_reducible refine (sub_any _ _ _ _ _ _ _ _ _).mono ?_; rintro e w' ⟨s0, s1, s2, s3, rfl, hs, hx⟩; obtain ⟨l', rfl⟩ := grw_of_ext hx; clear hx)
      | (go_at_call 59; with_reducible refine (out_ob _ _ _ _ _).mono ?_; rintro e w' ⟨rfl, hx⟩; obtain ⟨l', rfl⟩ := grw_of_ext hx; clear hx))
  all_goals
    go_wp2
    refine bodyPost_ret_by (by simp [results, Try.results23, go_sem]; rfl) rfl ?_
    rw [V_wd, V_wd] at hs
    exact ⟨by rw [ob_of (sub_eqp hs)], ((((ext_alloc _ _).trans (ext_alloc _ _)).trans (ext_alloc _ _)).trans (ext_drew _)).trans (grw_ext _ _)⟩

theorem err_test (n : Nat) : beqb (ob n) (fun _ => 0) = decide (Eqp n 0) := by
  rw [show (fun _ => (0 : UInt8)) = nb (0 % (2 ^ 255 - 19)) from funext fun j => by unfold nb; rw [Nat.zero_mod, Nat.zero_div]; rfl]
  exact beqb_mod n 0

set_option maxHeartbeats 1600000 in
theorem finv_zero (f : Nat → UInt8) (h : Eqp (V f) 0) (w : World) :
    Calls Try.prog 14 #[.agg (bcells f)] w fun e w' => e = .returned (.tuple #[.agg (bcells fun _ => 0), errZero]) ∧ Ext w w' := by
  have ht : beqb (ob (V f)) (fun _ => 0) = true := by rw [err_test]; exact decide_eq_true h
  clear h
  go_enter Try.func14, Try.ntmps14
  go_wp2_with (go_at_call 27; with_reducible refine (reduce_any _ _).mono ?_; rintro e w' ⟨rfl, hx⟩; obtain ⟨l', rfl⟩ := grw_of_ext hx; clear hx)
  refine bodyPost_ret_by (by simp [results, Try.results14, go_sem]; rfl) rfl ?_
  exact ⟨rfl, ((ext_alloc _ _).trans (ext_alloc _ _)).trans (grw_ext _ _)⟩

set_option maxHeartbeats 1600000 in
theorem finv_some (f : Nat → UInt8) (h : ¬ Eqp (V f) 0) (w : World) :
    Calls Try.prog 14 #[.agg (bcells f)] w fun e w' => e = .returned (.tuple #[.agg (bcells (ob (pI (V f)))), .nilIface]) ∧ Ext w w' := by
  have ht : beqb (ob (V f)) (fun _ => 0) = false := by rw [err_test]; exact decide_eq_false h
  clear h
  go_enter Try.func14, Try.ntmps14
  go_wp2_with (first | (go_at_call 27; with_reducible refine (reduce_any _ _).mono ?_; rintro e w' ⟨rfl, hx⟩; obtain ⟨l', rfl⟩ := grw_of_ext hx; clear hx) | (go_at_call 57; with_reducible refine (fin_any _ _).mono ?_; rintro e w' ⟨rfl, hx⟩; obtain ⟨l', rfl⟩ := grw_of_ext hx; clear hx) | (go_at_call 58; with_reducible refine (inv_any _ _ _ _ _).mono ?_; rintro e w' ⟨s0, s1, s2, s3, rfl, hs, hx⟩; obtain ⟨l', rfl⟩ := grw_of_ext hx; clear hx) | (go_at_call 59; with_reducible refine (out_ob _ _ _ _ _).mono ?_; rintro e w' ⟨rfl, hx⟩; obtain ⟨l', rfl⟩ := grw_of_ext hx; clear hx))
  refine bodyPost_ret_by (by simp [results, Try.results14, go_sem]; rfl) rfl ?_
  rw [V_wd] at hs
  exact ⟨by rw [ob_of (pI_is hs)], ((ext_alloc _ _).trans (ext_alloc _ _)).trans (grw_ext _ _)⟩

set_option maxHeartbeats 1600000 in
theorem froot_no (f : Nat → UInt8) (h : rtOk (V f) = false) (w : World) :
    Calls Try.prog 19 #[.agg (bcells f)] w fun e w' => e = .returned (.tuple #[.agg (bcells fun _ => 0), errNone]) ∧ Ext w w' := by
  go_enter Try.func19, Try.ntmps19
  go_wp2_with (first | (go_at_call 57; with_reducible refine (fin_any _ _).mono ?_; rintro e w' ⟨rfl, hx⟩; obtain ⟨l', rfl⟩ := grw_of_ext hx; clear hx) | (go_at_call 64; with_reducible refine (root_f _ _).mono ?_; rintro e w' ⟨s0, s1, s2, s3, rfl, hs, hx⟩; obtain ⟨l', rfl⟩ := grw_of_ext hx; clear hx) | (go_at_call 59; with_reducible refine (out_ob _ _ _ _ _).mono ?_; rintro e w' ⟨rfl, hx⟩; obtain ⟨l', rfl⟩ := grw_of_ext hx; clear hx))
  refine bodyPost_ret_by (by simp [results, Try.results19, go_sem]; rfl) rfl ?_
  exact ⟨rfl, by (repeat (first | exact Ext.refl _ | assumption | exact grw_ext _ _ | exact ext_drew _ | exact ext_alloc _ _ | refine Ext.trans ?_ (ext_alloc _ _) | refine Ext.trans ?_ (grw_ext _ _) | refine Ext.trans ?_ (ext_drew _)))⟩

set_option maxHeartbeats 1600000 in
theorem froot_ok (f : Nat → UInt8) (h : rtOk (V f) = true) (w : World) :
    Calls Try.prog 19 #[.agg (bcells f)] w fun e w' => e = .returned (.tuple #[.agg (bcells (ob (rtv (V f)))), .nilIface]) ∧ Ext w w' := by
  go_enter Try.func19, Try.ntmps19
  go_wp2_with (first | (go_at_call 57; with_reducible refine (fin_any _ _).mono ?_; rintro e w' ⟨rfl, hx⟩; obtain ⟨l', rfl⟩ := grw_of_ext hx; clear hx) | (go_at_call 64; with_reducible refine (root_f _ _).mono ?_; rintro e w' ⟨s0, s1, s2, s3, rfl, hs, hx⟩; obtain ⟨l', rfl⟩ := grw_of_ext hx; clear hx) | (go_at_call 59; with_reducible refine (out_ob _ _ _ _ _).mono ?_; rintro e w' ⟨rfl, hx⟩; obtain ⟨l', rfl⟩ := grw_of_ext hx; clear hx))
  refine bodyPost_ret_by (by simp [results, Try.results19, go_sem]; rfl) rfl ?_
  exact ⟨by rw [ob_of (rtv_is h hs)], by (repeat (first | exact Ext.refl _ | assumption | exact grw_ext _ _ | exact ext_drew _ | exact ext_alloc _ _ | refine Ext.trans ?_ (ext_alloc _ _) | refine Ext.trans ?_ (grw_ext _ _) | refine Ext.trans ?_ (ext_drew _)))⟩
end Go.Proofs.Ytndohjgfjbopnaa
end
section
/-
  A region that asks for its order, each of whose operations leaves a known value in every world that meets a condition, and a world that meets it again: one walk in the text's order.
-/
set_option linter.unusedVariables false
set_option linter.unusedSimpArgs false
namespace Go.Cv
open Go Go.RowKit
section
variable {P : Program} {ops : Array Oper} {Q : Exit → Act → World → Prop} {md : Region.Mode} {S : World → Prop}
/-- What an operation's run ends in: the value v, and a world that meets S. -/
def Res (P : Program) (S : World → Prop) (v : Value) : Result Next → Prop
  | .ok (.value u) w' => u = v ∧ S w'
  | .ok .skip w' => v = undef ∧ S w'
  | .ok (.enter f args) w' => Calls P f args w' (fun e w'' => e = .returned v ∧ S w'')
  | _ => False
theorem Res.upon {v : Value} {o : Oper} {a : Act} {next : Act → World → Prop} {r : Result Next} (h : Res P S v r) (hn : ∀ w', S w' → next (a.put o.dst v) w') : o.upon P a next Q r := by
  unfold Res at h
  split at h
  · obtain ⟨rfl, hS⟩ := h
    exact hn _ hS
  · obtain ⟨rfl, hS⟩ := h
    exact hn _ hS
  · refine Calls.mono h fun e w'' he => ?_
    obtain ⟨rfl, hS⟩ := he
    exact hn _ hS
  · exact h.elim
/-- In state a, in every world that meets S, the operation leaves v in its slot, and a world that meets S. -/
def YieldsS (P : Program) (ops : Array Oper) (S : World → Prop) (o : Oper) (v : Value) (a : Act) : Prop :=
  (Region.wanted o (yielded ops a.tmps) = true ∧ ∀ w, S w → Res P S v ((execOp a.eval o).run P w)) ∨
  (Region.wanted o (yielded ops a.tmps) = false ∧ v = undef)
theorem YieldsS.wpOp {i : Nat} {o : Oper} {v : Value} {a : Act} (hi : ops[i]? = some o) (hy : YieldsS P ops S o v a)
    {K : Act → World → Prop} {w : World} (hS : S w) (h : ∀ w', S w' → K (a.put o.dst v) w') : wpOp P ops Q i K a w := by
  unfold Go.wpOp
  simp only [hi]
  rcases hy with ⟨hw, hv⟩ | ⟨hw, rfl⟩
  · simp only [hw, if_true, Oper.wp]
    exact .inl ((hv w hS).upon h)
  · simp only [hw, Bool.false_eq_true, if_false]
    exact h w hS
theorem YieldsS.of_same {o : Oper} {v : Value} {a a' : Act} (hy : YieldsS P ops S o v a) (he : execOp a'.eval o = execOp a.eval o)
    (hw : Region.wanted o (yielded ops a'.tmps) = Region.wanted o (yielded ops a.tmps)) : YieldsS P ops S o v a' := by
  unfold YieldsS at *
  rw [he, hw]
  exact hy
theorem wpOp_putS {j : Nat} {oi oj : Oper} {v : Value} (hj : ops[j]? = some oj) (hap : oi.apart ops oj = true)
    (hsi : ∀ cs b, oi.op ≠ .select cs b) (hsj : ∀ cs b, oj.op ≠ .select cs b)
    (hQ : ∀ c a w, Q (.panic c) (a.put oi.dst v) w → Q (.panic c) a w) {K : Act → World → Prop} {a : Act} {w : World}
    (hy : YieldsS P ops S oi v a) (h : wpOp P ops Q j K (a.put oi.dst v) w) :
    wpOp P ops Q j (fun a' w' => YieldsS P ops S oi v a' ∧ K (a'.put oi.dst v) w') a w := by
  obtain ⟨h1, h2, h3⟩ := Oper.apart_spec hap
  have keep : ∀ (a : Act), YieldsS P ops S oi v a → ∀ u, YieldsS P ops S oi v (a.put oj.dst u) := fun a hy u =>
    hy.of_same (execOp_put oi hsi a oj.dst u h3) (wanted_put oi a oj.dst u h3)
  have keepD : ∀ d, YieldsS P ops S oi v { a with defers := d :: a.defers } := fun d => hy.of_same rfl rfl
  unfold wpOp at *
  simp only [hj] at *
  rw [wanted_put oj a oi.dst v h1] at h
  split
  · rename_i hw
    simp only [hw, if_true] at h
    rcases h with h | ⟨hasks, hlets⟩
    case inr => exact .inr ⟨by unfold Oper.asks at *; rw [execOp_put oj hsj a oi.dst v h1] at hasks; exact hasks, hlets⟩
    refine .inl ?_
    unfold Oper.wp at *
    rw [execOp_put oj hsj a oi.dst v h1] at h
    generalize (execOp a.eval oj).run P w = r at *
    cases r with
    | ok n w' =>
      cases n <;> simp only [Oper.upon] at h ⊢
      case value u => exact ⟨keep a hy u, by rw [← Act.put_comm a v u h2]; exact h⟩
      case skip => exact ⟨keep a hy _, by rw [← Act.put_comm a v undef h2]; exact h⟩
      case defer d =>
        refine ⟨keep _ (keepD d) _, ?_⟩
        rw [← Act.put_comm _ v undef h2, ← Act.put_defers]
        exact h
      case enter f args =>
        refine Calls.mono h fun e w'' he => ?_
        cases e with
        | returned u => exact ⟨keep a hy u, by rw [← Act.put_comm a v u h2]; exact he⟩
        | panicked c => exact hQ _ _ _ he
        | outgrown => exact he
      case row row args => exact Rows.mono h fun u w'' he => ⟨keep a hy u, by rw [← Act.put_comm a v u h2]; exact he⟩
    | halt x w' =>
      cases x <;> simp only [Oper.upon] at h ⊢
      case panic u => exact hQ _ _ _ h
  · rename_i hw
    simp only [hw] at h
    exact ⟨keep a hy _, by rw [← Act.put_comm a v undef h2]; exact h⟩
/-- Whatever order is picked from here on, from any world that meets S. -/
def wpAnyS (P : Program) (md : Region.Mode) (ops : Array Oper) (Q : Exit → Act → World → Prop) (S : World → Prop) : Nat → Array Bool → Act → Prop
  | 0, listed, a => Region.ready md ops listed = [] ∧ ∀ w, S w → Q .normal a w
  | fuel + 1, listed, a =>
    (Region.ready md ops listed = [] → ∀ w, S w → Q .normal a w) ∧
    ∀ i ∈ Region.ready md ops listed, ∀ w, S w → wpOp P ops Q i (fun a' w' => S w' ∧ wpAnyS P md ops Q S fuel (listed.setIfInBounds i true) a') a w
theorem wpAny_of_sure : ∀ (fuel : Nat) (listed : Array Bool) (a : Act) (w : World), S w → wpAnyS P md ops Q S fuel listed a → wpAny P md ops Q fuel listed a w
  | 0, _, _, w, hS, h => ⟨h.1, h.2 w hS⟩
  | fuel + 1, _, _, w, hS, h => ⟨fun h0 => h.1 h0 w hS, fun i hi => wpOp_mono (fun a' w' h' => wpAny_of_sure fuel _ a' w' h'.1 h'.2) (h.2 i hi w hS)⟩
theorem wpAnyS_first {i : Nat} {oi : Oper} {v : Value} (hi : ops[i]? = some oi) (hsel : ∀ (j : Nat) (o : Oper) cs b, ops[j]? = some o → o.op ≠ .select cs b)
    (hQ : ∀ c a w, Q (.panic c) (a.put oi.dst v) w → Q (.panic c) a w) :
    ∀ (fuel : Nat) (listed : Array Bool) (a : Act),
      (∀ j oj, ops[j]? = some oj → j ≠ i → listed.getD j true = false → (∀ e ∈ oj.after, Region.binds md e = true → e.on ≠ i) → oi.apart ops oj = true) →
      i ∈ Region.ready md ops listed → YieldsS P ops S oi v a →
      wpAnyS P md ops Q S fuel (listed.setIfInBounds i true) (a.put oi.dst v) → wpAnyS P md ops Q S (fuel + 1) listed a := by
  intro fuel
  induction fuel with
  | zero =>
    intro listed a _ hr hy H
    refine ⟨fun h => (by rw [h] at hr; cases hr), fun j hj w hS => ?_⟩
    by_cases hji : j = i
    · subst hji; exact hy.wpOp hi hS fun w' hS' => ⟨hS', H⟩
    · have := ready_mono hj hji
      rw [H.1] at this
      cases this
  | succ fuel ih =>
    intro listed a hfree hr hy H
    refine ⟨fun h => (by rw [h] at hr; cases hr), fun j hj w hS => ?_⟩
    by_cases hji : j = i
    · subst hji; exact hy.wpOp hi hS fun w' hS' => ⟨hS', H⟩
    · have h1 := H.2 j (ready_mono hj hji) w hS
      obtain ⟨hjun, oj, hoj, hall⟩ := mem_ready.1 hj
      have hnot : ∀ e ∈ oj.after, Region.binds md e = true → e.on ≠ i := fun e he hb heq => by
        have h1 := hall e he hb
        have h0 := (mem_ready.1 hr).1
        rw [heq] at h1
        rcases Nat.lt_or_ge i listed.size with h' | h'
        · simp [h'] at h0 h1; rw [h0] at h1; cases h1
        · simp [Array.getElem?_eq_none h'] at h1
      have h2 := wpOp_putS hoj (hfree j oj hoj hji hjun hnot) (fun cs b => hsel i oi cs b hi) (fun cs b => hsel j oj cs b hoj) hQ hy h1
      have hfree' : ∀ k ok, ops[k]? = some ok → k ≠ i → (listed.setIfInBounds j true).getD k true = false →
          (∀ e ∈ ok.after, Region.binds md e = true → e.on ≠ i) → oi.apart ops ok = true := fun k ok hk hki hun hno => by
        refine hfree k ok hk hki ?_ hno
        by_cases hjk : j = k
        · subst hjk; exact hjun
        · rw [getD_set_ne true hjk] at hun; exact hun
      refine wpOp_mono (fun a' w' h3 => ⟨h3.2.1, ih (listed.setIfInBounds j true) a' hfree' (ready_mono hr (Ne.symm hji)) h3.1 ?_⟩) h2
      rw [Array.setIfInBounds_comm _ _ hji]
      exact h3.2.2
/-- Take number i: it may come up, leaves v in every world that meets S. -/
theorem wpAnyS_take {i : Nat} {oi : Oper} {v : Value} {fuel : Nat} {listed : Array Bool} {a : Act} (hi : ops[i]? = some oi)
    (hs : Region.noSelect ops = true) (hf : Region.free md ops listed i = true) (hr : (Region.ready md ops listed).contains i = true)
    (hQ : ∀ c a w, Q (.panic c) (a.put oi.dst v) w → Q (.panic c) a w) (hy : YieldsS P ops S oi v a)
    (h : wpAnyS P md ops Q S fuel (listed.setIfInBounds i true) (a.put oi.dst v)) : wpAnyS P md ops Q S (fuel + 1) listed a :=
  wpAnyS_first hi (Region.noSelect_spec hs) hQ fuel listed a (Region.free_spec hi hf) (by simpa using hr) hy h
/-- The same, the slot written out. -/
theorem wpAnyS_go {i : Nat} {oi : Oper} (dst : Option Tmp) {v : Value} {fuel : Nat} {listed : Array Bool} {a : Act} (hi : ops[i]? = some oi) (hd : oi.dst = dst)
    (hs : Region.noSelect ops = true) (hf : Region.free md ops listed i = true) (hr : (Region.ready md ops listed).contains i = true)
    (hQ : ∀ c a w, Q (.panic c) (a.put dst v) w → Q (.panic c) a w) (hy : YieldsS P ops S oi v a)
    (h : wpAnyS P md ops Q S fuel (listed.setIfInBounds i true) (a.put dst v)) : wpAnyS P md ops Q S (fuel + 1) listed a := by
  subst hd
  exact wpAnyS_take hi hs hf hr hQ hy h
theorem wpAnyS_done {listed : Array Bool} {a : Act} (hr : Region.ready md ops listed = []) (h : ∀ w, S w → Q .normal a w) : wpAnyS P md ops Q S 0 listed a := ⟨hr, h⟩
theorem wp_region_sure {id : Nat} {a : Act} {w : World} (S : World → Prop) (hm : P.follows .mixedOrders = true) (hS : S w.drew)
    (h : wpAnyS P .any ops Q S ops.size (Array.replicate ops.size false) a) : (Code.region id ops true).wp P Q a w :=
  wp_region_any hm (wpAny_of_sure _ _ _ _ hS h)
end
section
open Go.RowKit
theorem rdB_opt {W : World} {n : Nat} {f : Nat → UInt8} (h : rdB W n f) : rowOpt W n = some (bcells f) := by
  obtain ⟨⟨c, t, hc, h32⟩, hr⟩ := h
  have hr2 : rowOf W n = c := by unfold rowOf; rw [hc]
  rw [hr2] at hr
  subst hr
  unfold rowOpt
  rw [hc]
  simp
theorem rdB_cell {W : World} {n : Nat} {f : Nat → UInt8} (h : rdB W n f) {i : Nat} (hi : i < 32) : W.cell? ⟨n, i, none⟩ = some (.int .u8 (n8 (f i))) := by
  obtain ⟨⟨c, t, hc, h32⟩, hr⟩ := h
  have hr2 : rowOf W n = c := by unfold rowOf; rw [hc]
  rw [hr2] at hr
  subst hr
  rw [cell_of_row _ _ i _ t (0, 0) hc]
  exact bcells_get f hi
end
end Go.Cv
end
