/-
  The document's answer of layer 7: numbers of the field; D, on, Is.
-/
import Derived.Test.YtndohjgfjbopnaaPS
set_option linter.unusedSimpArgs false
set_option linter.unusedVariables false
namespace Go.Cv
open Go.RowKit Go.Cv.Pr Go.Cv.Grp
theorem pp_is : pp = 2 ^ 255 - 19 := rfl
theorem d_ring {n : Nat} [NeZero n] (a b d i : Fin n) (h1 : b * i = 1) (h2 : d * b = 0 - a) : (0 - a) * i = d := by grind
theorem on_ring {n : Nat} [NeZero n] (x y d : Fin n) : 1 + d * (x * x * (y * y)) = 1 + d * (x * x) * (y * y) := by grind
theorem d_is : (0 - tf 121665) * fiv (tf 121666) = C7.d := by
  refine d_ring _ (tf 121666) _ _ (mul_fiv _ (tf_ne.2 (by decide))) ?_
  have h : Eqp (dN * 121666 + 121665) 0 := by decide +kernel
  have h2 := h.tf
  rw [tf_add, tf_mul, tf_zero] at h2
  show tf dN * tf 121666 = 0 - tf 121665
  generalize tf dN = a at *
  generalize tf 121666 = b at *
  generalize tf 121665 = c at *
  clear h
  grind
end Go.Cv
namespace Go.Proofs.Ytndohjgfjbopnaa
open Go.RowKit Go.Cv Go.Cv.Pr Go.Cv.Grp Go.Cv.Dig
/-- A number of the field in a slice. -/
def NF (w : World) (v : Value) (x : F7) : Prop := Num w v x.val 11
theorem NF.ext {w w' : World} {v : Value} {x : F7} (h : NF w v x) (hx : Ext w w') : NF w' v x := Num.ext h hx
theorem NF.of {w : World} {v : Value} {k : Nat} (h : Num w v (k % (2 ^ 255 - 19)) 11) : NF w v (tf k) := h
theorem NF.nil (w : World) : NF w (.slice none 0 0) 0 := num_nil w
theorem NF.one (w : World) (t : TypeId) : NF (w.alloc (.cells #[.int .i64 1] t)) (.slice (some ⟨w.heap.size, 0, none⟩) 1 1) 1 := by
  unfold NF
  rw [show (1 : F7).val = 1 from by decide]
  exact num_1 w t
theorem NF.lit (k : Nat) (h0 : k ≠ 0) (hk : k < 16777216) (w : World) (t : TypeId) : NF (w.alloc (.cells #[.int .i64 (k : Int)] t)) (.slice (some ⟨w.heap.size, 0, none⟩) 1 1) (tf k) := by
  unfold NF
  rw [show (tf k).val = k from Nat.mod_eq_of_lt (Nat.lt_trans hk (by unfold pp; decide))]
  exact num_lit k h0 hk w t
theorem nadd {w : World} {v1 v2 : Value} {x y : F7} (h1 : NF w v1 x) (h2 : NF w v2 y) :
    Calls Try.prog 22 #[v1, v2] w fun e w' => ∃ v, e = .returned v ∧ NF w' v (x + y) ∧ Ext w w' := by
  refine (radd_any w v1 v2 _ _ h1 h2).mono ?_
  rintro e w' ⟨v, rfl, hv, hx⟩
  exact ⟨v, rfl, by unfold NF; rw [Fin.val_add]; exact hv, hx⟩
theorem nmul {w : World} {v1 v2 : Value} {x y : F7} (h1 : NF w v1 x) (h2 : NF w v2 y) :
    Calls Try.prog 26 #[v1, v2] w fun e w' => ∃ v, e = .returned v ∧ NF w' v (x * y) ∧ Ext w w' := by
  refine (rmul_any w v1 v2 _ _ h1 h2).mono ?_
  rintro e w' ⟨v, rfl, hv, hx⟩
  exact ⟨v, rfl, by unfold NF; rw [Fin.val_mul]; exact hv, hx⟩
theorem nsub {w : World} {v1 v2 : Value} {x y : F7} (h1 : NF w v1 x) (h2 : NF w v2 y) :
    Calls Try.prog 24 #[v1, v2] w fun e w' => ∃ v, e = .returned v ∧ NF w' v (x - y) ∧ Ext w w' := by
  have hy := y.isLt
  refine (rsub_any w v1 v2 _ _ h1 h2 (Nat.lt_trans hy (by unfold pp; decide))).mono ?_
  rintro e w' ⟨v, rfl, hv, hx⟩
  refine ⟨v, rfl, ?_, hx⟩
  unfold NF
  have e : (x - y).val = (x.val + 2 * (2 ^ 255 - 19) - y.val) % (2 ^ 255 - 19) := by
    rw [Fin.val_sub]
    have hy2 : y.val < 2 ^ 255 - 19 := hy
    show (2 ^ 255 - 19 - y.val + x.val) % (2 ^ 255 - 19) = _
    omega
  rw [e]
  exact hv
theorem fiv_val (x : F7) (P : Nat) (hP : P = 2 ^ 255 - 19) : (fiv x).val = x.val ^ (P - 2) % P := by
  have h : pI x.val = x.val ^ (P - 2) := by
    unfold pI
    obtain ⟨K, hK⟩ : ∃ K, K = 2 ^ 255 - 21 := ⟨_, rfl⟩
    rw [← hK, show P - 2 = K from by rw [hP, hK]]
  show pI x.val % pp = _
  rw [h]
  generalize x.val = a
  rw [pp_is, ← hP]
theorem ninv {w : World} {v1 : Value} {x : F7} (h1 : NF w v1 x) :
    Calls Try.prog 18 #[v1] w fun e w' => ∃ v, e = .returned v ∧ NF w' v (fiv x) ∧ Ext w w' := by
  obtain ⟨P, hP⟩ : ∃ P, P = 2 ^ 255 - 19 := ⟨_, rfl⟩
  refine (rinv_any w v1 _ P hP h1).mono ?_
  rintro e w' ⟨v, rfl, hv, hx⟩
  refine ⟨v, rfl, ?_, hx⟩
  unfold NF
  rw [fiv_val x P hP]
  exact hv
theorem nin (f : Nat → UInt8) (w : World) :
    Calls Try.prog 15 #[.agg (bcells f)] w fun e w' => ∃ v, e = .returned v ∧ NF w' v (tf (V f)) ∧ Ext w w' := rin_any f w
theorem nbytes {w : World} {v : Value} {x : F7} (h : NF w v x) :
    Calls Try.prog 17 #[v] w fun e w' => e = .returned (.agg (bcells (fb x))) ∧ Ext w w' := bytes_num w v _ h
theorem ncmp {w : World} {v1 v2 : Value} {x y : F7} (h1 : NF w v1 x) (h2 : NF w v2 y) :
    Calls Try.prog 36 #[v1, v2] w fun e w' => ∃ c, e = .returned (.int .i64 c) ∧ (c == 0) = decide (x = y) ∧ Ext w w' := by
  refine (cmp_num w v1 v2 _ _ h1 h2).mono ?_
  rintro e w' ⟨c, rfl, ha, hb, hx⟩
  refine ⟨c, rfl, ?_, hx⟩
  by_cases h : x = y
  · rw [decide_eq_true h, ha (by rw [h])]; rfl
  · have := hb fun h2 => h (Fin.ext h2)
    rw [decide_eq_false h]
    simpa using this
set_option maxHeartbeats 4000000
theorem nratio {w : World} {v1 v2 : Value} {x y : F7} (h1 : NF w v1 x) (h2 : NF w v2 y) :
    Calls Try.prog 74 #[v1, v2] w fun e w' => ∃ v, e = .returned v ∧ NF w' v (x * fiv y) ∧ Ext w w' := by
  go_enter Try.func74, Try.ntmps74
  go_wp2_with (first
    | (go_at_call 18; with_reducible refine (ninv h2).mono ?_; rintro e w1 ⟨v3, rfl, hv3, hx1⟩)
    | (go_at_call 26; with_reducible refine (nmul (h1.ext hx1) hv3).mono ?_; rintro e w2 ⟨v4, rfl, hv4, hx2⟩))
  go_ret
  exact ⟨_, rfl, hv4, hx1.trans hx2⟩
theorem lit_1 (w : World) (t : TypeId) : NF (w.alloc (.cells #[.int .i64 121665] t)) (.slice (some ⟨w.heap.size, 0, none⟩) 1 1) (tf 121665) := NF.lit 121665 (by decide) (by decide) w t
theorem lit_2 (w : World) (t : TypeId) : NF (w.alloc (.cells #[.int .i64 121666] t)) (.slice (some ⟨w.heap.size, 0, none⟩) 1 1) (tf 121666) := NF.lit 121666 (by decide) (by decide) w t
theorem nD (w : World) : Calls Try.prog 43 #[] w fun e w' => ∃ v, e = .returned v ∧ NF w' v C7.d ∧ Ext w w' := by
  rw [← d_is]
  have l1 := lit_1
  have l2 := lit_2
  generalize tf 121665 = a at *
  generalize tf 121666 = b at *
  go_enter Try.func43, Try.ntmps43
  go_wp2_with (first
    | (go_at_call 24; with_reducible refine (nsub (NF.nil _) (l1 w _)).mono ?_; rintro e w1 ⟨v1, rfl, hv1, hx1⟩)
    | (go_at_call 74; with_reducible refine (nratio (hv1.ext (ext_alloc _ _)) (l2 w1 _)).mono ?_; rintro e w2 ⟨v2, rfl, hv2, hx2⟩))
  go_ret
  exact ⟨_, rfl, hv2, (ext_alloc _ _).trans (hx1.trans ((ext_alloc _ _).trans hx2))⟩
set_option maxRecDepth 20000
theorem non {w : World} {v1 v2 v3 : Value} {x y : F7} (h1 : NF w v1 x) (h2 : NF w v2 y) (h3 : NF w v3 C7.d) :
    Calls Try.prog 73 #[v1, v2, v3] w fun e w' => e = .returned (.bool (decide (y * y - x * x = 1 + C7.d * (x * x) * (y * y)))) ∧ Ext w w' := by
  rw [← on_ring]
  generalize C7.d = d at *
  go_enter Try.func73, Try.ntmps73
  go_wp2_with (first
    | (go_at_call 26; with_reducible refine (nmul h1 h1).mono ?_; rintro e w1 ⟨xx, rfl, hxx, hx1⟩)
    | (go_at_call 26; with_reducible refine (nmul (h2.ext hx1) (h2.ext hx1)).mono ?_; rintro e w2 ⟨yy, rfl, hyy, hx2⟩)
    | (go_at_call 24; with_reducible refine (nsub hyy (hxx.ext hx2)).mono ?_; rintro e w3 ⟨l, rfl, hl, hx3⟩)
    | (go_at_call 26; with_reducible refine (nmul ((hxx.ext hx2).ext (hx3.trans (ext_alloc _ _))) (hyy.ext (hx3.trans (ext_alloc _ _)))).mono ?_; rintro e w4 ⟨p, rfl, hp, hx4⟩)
    | (go_at_call 26; with_reducible refine (nmul (h3.ext (hx1.trans (hx2.trans (hx3.trans ((ext_alloc _ _).trans hx4))))) hp).mono ?_; rintro e w5 ⟨q, rfl, hq, hx5⟩)
    | (go_at_call 22; with_reducible refine (nadd ((NF.one w3 _).ext (hx4.trans hx5)) hq).mono ?_; rintro e w6 ⟨r, rfl, hr, hx6⟩)
    | (go_at_call 36; with_reducible refine (ncmp (hl.ext ((ext_alloc _ _).trans (hx4.trans (hx5.trans hx6)))) hr).mono ?_; rintro e w7 ⟨c, rfl, hc, hx7⟩))
  go_ret
  refine ⟨?_, hx1.trans (hx2.trans (hx3.trans ((ext_alloc _ _).trans (hx4.trans (hx5.trans (hx6.trans hx7))))))⟩
  rfl
end Go.Proofs.Ytndohjgfjbopnaa
