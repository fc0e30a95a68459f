/-
  Walks of the document's answer: sums, differences, products, and what 32 bytes stand for.
-/
import Derived.Test.YtndohjgfjbopnaaRefJ
import Derived.Test.YtndohjgfjbopnaaSums
import Derived.BigRegion
set_option linter.unusedSimpArgs false
set_option linter.unusedVariables false
namespace Go.Proofs.Ytndohjgfjbopnaa
open Go.RowKit Go.Cv Go.Cv.Dig
@[go_sem] theorem make_int23 (w : World) : (Instr.makeSlice 28 (.int .i64 23) (.int .i64 23)).run Try.prog w =
    .ok (.slice (some ⟨w.heap.size, 0, none⟩) 23 23) (w.alloc (.cells (icells (List.replicate 23 0)) 3)) := make_int 23 w (by decide)

set_option maxRecDepth 4000 in
set_option maxHeartbeats 4000000 in
theorem radd_any (w : World) (v1 v2 : Value) (x y : Nat) (h1 : Num w v1 x 11) (h2 : Num w v2 y 11) :
    Calls Try.prog 22 #[v1, v2] w fun e w' => ∃ v, e = .returned v ∧ Num w' v ((x + y) % (2 ^ 255 - 19)) 11 ∧ Ext w w' := by
  obtain ⟨A, n, c, l, rfl, hn, hc, hr, hcan, hval, hle⟩ := h1
  obtain ⟨B, n2, c2, l2, rfl, hn2, hc2, hr2, hcan2, hval2, hle2⟩ := h2
  have HN := Lib.hid hn
  have HN2 := Lib.hid hn2
  have HC := Lib.hid (And.intro hcan.1 hcan2.1)
  have HD : Hid (∀ os, AddInv l l2 os 11 → SetInv ((x + y) % (2 ^ 255 - 19)) os true) := Lib.hid fun os h => by rw [← hval, ← hval2]; exact h.done (by omega) (by omega)
  clear hn hn2 hcan hcan2 hval hval2
  go_enter Try.func22, Try.ntmps22
  go_wp2
  go_loopw [6] (fun t wr => ∃ (i : Nat) (os : List Nat) (x : Nat × Array Obj), i ≤ 11 ∧ t = .int .i64 i ∧ wr = grw (w.alloc (.cells (icells os) 3)) x ∧ Hid (AddInv l l2 os i)) (fun t _ => 11 - (intOf t).toNat)
  case atStart => exact ⟨0, List.replicate 23 0, _, by decide, rfl, grw_self _, Lib.hid (AddInv.start l l2)⟩
  case round =>
    obtain ⟨i, os, x, hi, rfl, rfl, HP⟩ := hrel
    have hlen : (icells os).size = 23 := by rw [icells_size, HP.out.len]
    by_cases hlt : i < 11
    · have h1 := HC.out.1.dg i
      have h2 := HC.out.2.dg i
      have HT := Lib.hid (HP.out.step HC.out.1 HC.out.2 hlt)
      have hg : (icells os)[i]? = some (iv (dg os i)) := icells_get os (by rw [HP.out.len]; omega)
      have e1 : ∀ X : Nat × Array Obj, Rd (grw (w.alloc (.cells (icells os) 3)) X) A (l.map iv) := fun X => hr.ext ((ext_alloc _ _).trans (grw_ext _ _))
      have e2 : ∀ X : Nat × Array Obj, Rd (grw (w.alloc (.cells (icells os) 3)) X) B (l2.map iv) := fun X => hr2.ext ((ext_alloc _ _).trans (grw_ext _ _))
      go_wp2_with (first
        | (go_at_call 61; with_reducible refine (digit_any A n c l i _ HN.out (e1 _) (by omega) (by omega)).mono ?_; rintro e w' ⟨rfl, rfl⟩)
        | (go_at_call 61; with_reducible refine (digit_any B n2 c2 l2 i _ HN2.out (e2 _) (by omega) (by omega)).mono ?_; rintro e w' ⟨rfl, rfl⟩))
      refine ⟨⟨i + 1, os.set i (dg l i + dg l2 i), _, by omega, by go_num, by rw [← icells_set]; rfl, HT⟩, by simp [intOf]; omega⟩
    · have hin : i = 11 := by omega
      subst hin
      have HT := Lib.hid (HD.out os HP.out)
      go_wp2_with (go_at_call 68; with_reducible refine (settle_any w os x _ HT.out).mono ?_; rintro e w' ⟨v, rfl, hv, hx⟩)
      go_ret
      exact ⟨_, rfl, hv, hx⟩

theorem al_one (w : World) (o : Obj) : (w.alloc o).heap.size = w.heap.size + 1 := by
  show (w.heap.push _).size = _
  rw [Array.size_push]
theorem al_size (w : World) (o o' : Obj) : (w.alloc o).heap.size = (w.alloc o').heap.size := by rw [al_one, al_one]
theorem p_new (w : World) :
    Calls Try.prog 56 #[] w fun e w' => e = .returned (.slice (some ⟨w.heap.size, 0, none⟩) 11 11) ∧ (∀ j, j < 11 → w'.cell? ⟨w.heap.size, j, none⟩ = some (iv (dg pdig j))) ∧ Ext w w' := by
  go_enter Try.func56, Try.ntmps56
  go_wp2
  go_ret
  refine ⟨rfl, fun j hj => ?_, ext_alloc _ _⟩
  rw [World.cell?_alloc_at _ _ _ _ rfl]
  rcases (by omega : j = 0 ∨ j = 1 ∨ j = 2 ∨ j = 3 ∨ j = 4 ∨ j = 5 ∨ j = 6 ∨ j = 7 ∨ j = 8 ∨ j = 9 ∨ j = 10) with rfl | rfl | rfl | rfl | rfl | rfl | rfl | rfl | rfl | rfl | rfl <;> rfl

set_option maxRecDepth 4000 in
set_option maxHeartbeats 4000000 in
theorem rsub_any (w : World) (v1 v2 : Value) (x y : Nat) (h1 : Num w v1 x 11) (h2 : Num w v2 y 11) (hy : y < 2 ^ 255) :
    Calls Try.prog 24 #[v1, v2] w fun e w' => ∃ v, e = .returned v ∧ Num w' v ((x + 2 * (2 ^ 255 - 19) - y) % (2 ^ 255 - 19)) 11 ∧ Ext w w' := by
  obtain ⟨A, n, c, l, rfl, hn, hc, hr, hcan, hval, hle⟩ := h1
  obtain ⟨B, n2, c2, l2, rfl, hn2, hc2, hr2, hcan2, hval2, hle2⟩ := h2
  have HN := Lib.hid hn
  have HN2 := Lib.hid hn2
  have HC := Lib.hid (And.intro hcan.1 hcan2.1)
  have HO := Lib.hid (sub_ok hcan2.1 (top_dg (by rw [hval2]; exact hy)))
  obtain ⟨N, hN⟩ : ∃ N, N = (x + 2 * (2 ^ 255 - 19) - y) % (2 ^ 255 - 19) := ⟨_, rfl⟩
  have HD : Hid (∀ os, SubInv l l2 os 11 → SetInv N os true) := Lib.hid fun os h => by rw [hN, ← hval, ← hval2]; exact h.done (by omega) (by omega)
  rw [← hN]
  clear hn hn2 hcan hcan2 hval hval2 hy hN
  go_enter Try.func24, Try.ntmps24
  go_wp2_with (go_at_call 56; with_reducible refine (p_new _).mono ?_; rintro e w' ⟨rfl, hD, hx⟩; obtain ⟨x', rfl⟩ := grw_of_ext hx; clear hx)
  have hP : ∀ (os : List Nat) (z j : Nat), j < 11 → (grw (w.alloc (.cells (icells os) 3)) (z, x'.2)).cell? ⟨w.heap.size + 1, j, none⟩ = some (iv (dg pdig j)) := by
    intro os z j hj
    have h := grw_cell_ge (w2 := w.alloc (.cells (icells os) 3)) (al_size _ _ _) (Nat.le_refl _) (hD j hj) z #[]
    rw [Array.append_empty, al_one] at h
    exact h
  clear hD
  go_loopw [7] (fun t wr => ∃ (i : Nat) (os : List Nat) (x : Nat × Array Obj), i ≤ 11 ∧ t = .int .i64 i ∧ wr = grw (w.alloc (.cells (icells os) 3)) x ∧ x.2 = x'.2 ∧ Hid (SubInv l l2 os i)) (fun t _ => 11 - (intOf t).toNat)
  case atStart => exact ⟨0, List.replicate 23 0, _, by decide, rfl, rfl, rfl, Lib.hid (SubInv.start l l2)⟩
  case round =>
    obtain ⟨i, os, x, hi, rfl, rfl, hx2, HP⟩ := hrel
    have hlen : (icells os).size = 23 := by rw [icells_size, HP.out.len]
    by_cases hlt : i < 11
    · have h1 := HC.out.1.dg i
      have h2 := HC.out.2.dg i
      have h3 := pdig_canon.1.dg i
      have h4 := HO.out i hlt
      have HT := Lib.hid (HP.out.step HC.out.1 hlt (by omega))
      have hg : (icells os)[i]? = some (iv (dg os i)) := icells_get os (by rw [HP.out.len]; omega)
      have e1 : ∀ X : Nat × Array Obj, Rd (grw (w.alloc (.cells (icells os) 3)) X) A (l.map iv) := fun X => hr.ext ((ext_alloc _ _).trans (grw_ext _ _))
      have e2 : ∀ X : Nat × Array Obj, Rd (grw (w.alloc (.cells (icells os) 3)) X) B (l2.map iv) := fun X => hr2.ext ((ext_alloc _ _).trans (grw_ext _ _))
      have hPx : ∀ z : Nat, (grw (w.alloc (.cells (icells os) 3)) (z, x.2)).cell? ⟨w.heap.size + 1, i, none⟩ = some (iv (dg pdig i)) := fun z => by rw [hx2]; exact hP os z i hlt
      obtain ⟨e, he⟩ : ∃ e, e = dg l i + 2 * dg pdig i - dg l2 i := ⟨_, rfl⟩
      rw [← he] at HT
      have w1 : IntKind.i64.wrap (2 * (dg pdig i : Int)) = 2 * (dg pdig i : Int) := IntWalk.i64_in _ (by omega)
      have w2 : IntKind.i64.wrap ((dg l i : Int) + 2 * (dg pdig i : Int)) = (dg l i : Int) + 2 * (dg pdig i : Int) := IntWalk.i64_in _ (by omega)
      have w3 : IntKind.i64.wrap ((dg l i : Int) + 2 * (dg pdig i : Int) - (dg l2 i : Int)) = (e : Int) := by rw [IntWalk.i64_in _ (by omega)]; omega
      have b1 : (i : Int) < 23 := by omega
      have b2 : (i : Int) < 11 := by omega
      replace hx2 := Lib.hid hx2
      clear hP he
      go_wp2
      go_region_law (first
        | (go_simp; go_at_call 61; (with_reducible refine (digit_any A n c l i _ HN.out (e1 _) (by omega) (by omega)).mono ?_); rintro e w' ⟨rfl, rfl⟩)
        | (go_simp; go_at_call 61; (with_reducible refine (digit_any B n2 c2 l2 i _ HN2.out (e2 _) (by omega) (by omega)).mono ?_); rintro e w' ⟨rfl, rfl⟩))
      all_goals
        go_wp2
        refine ⟨⟨i + 1, os.set i e, (x.1 + 1, x.2), by omega, by go_num, by rw [← icells_set], hx2.out, HT⟩, by simp [intOf]; omega⟩
    · have hin : i = 11 := by omega
      subst hin
      have HT := Lib.hid (HD.out os HP.out)
      go_wp2_with (go_at_call 68; with_reducible refine (settle_any w os x _ HT.out).mono ?_; rintro e w' ⟨v, rfl, hv, hx⟩)
      go_ret
      exact ⟨_, rfl, hv, hx⟩

set_option maxRecDepth 4000 in
set_option maxHeartbeats 4000000 in
theorem rmul_any (w : World) (v1 v2 : Value) (x y : Nat) (h1 : Num w v1 x 11) (h2 : Num w v2 y 11) :
    Calls Try.prog 26 #[v1, v2] w fun e w' => ∃ v, e = .returned v ∧ Num w' v ((x * y) % (2 ^ 255 - 19)) 11 ∧ Ext w w' := by
  obtain ⟨A, n, c, l, rfl, hn, hc, hr, hcan, hval, hle⟩ := h1
  obtain ⟨B, n2, c2, l2, rfl, hn2, hc2, hr2, hcan2, hval2, hle2⟩ := h2
  obtain ⟨N, hN⟩ : ∃ N, N = (x * y) % (2 ^ 255 - 19) := ⟨_, rfl⟩
  obtain ⟨D, hD⟩ : ∃ D, D = 281474976710656 := ⟨_, rfl⟩
  have HD : Hid (∀ os, MulInv D l l2 os n 0 → SetInv N os true) := Lib.hid fun os h => by rw [hN, ← hval, ← hval2]; rw [← hn] at h; exact h.done hD (by omega) (by omega) hcan.1 hcan2.1
  have HN := Lib.hid hn
  have HN2 := Lib.hid hn2
  have HC := Lib.hid (And.intro hcan.1 hcan2.1)
  rw [← hN]
  clear hn hn2 hcan hcan2 hval hval2 hN
  go_enter Try.func26, Try.ntmps26
  go_wp2
  go_loopw [6] (fun t wr => ∃ (i : Nat) (os : List Nat) (x : Nat × Array Obj), i ≤ n ∧ t = .int .i64 i ∧ wr = grw (w.alloc (.cells (icells os) 3)) x ∧ Hid (MulInv D l l2 os i 0)) (fun t _ => n - (intOf t).toNat)
  case atStart => exact ⟨0, List.replicate 23 0, _, by omega, rfl, grw_self _, Lib.hid (MulInv.start D l l2)⟩
  case round =>
    obtain ⟨i, os, x, hi, rfl, rfl, HP⟩ := hrel
    by_cases hlt : i < n
    · obtain ⟨ad, rfl, hcell⟩ := hr.at_ (k := i) (by rw [List.length_map, HN.out]; exact hlt)
      rw [List.getElem_map, ← dg_lt] at hcell
      go_wp2
      go_loopw [7] (fun t wr => ∃ (k : Nat) (os : List Nat) (x : Nat × Array Obj), k ≤ n2 ∧ t = .int .i64 k ∧ wr = grw (w.alloc (.cells (icells os) 3)) x ∧ Hid (MulInv D l l2 os i k)) (fun t _ => n2 - (intOf t).toNat)
      case atStart => exact ⟨0, os, x, by omega, rfl, rfl, HP⟩
      case round =>
        clear HP
        obtain ⟨k, os, x, hk, rfl, rfl, HP⟩ := hrel
        have hlen : (icells os).size = 23 := by rw [icells_size, HP.out.len]
        by_cases hlk : k < n2
        · obtain ⟨bd, rfl, hcell2⟩ := hr2.at_ (k := k) (by rw [List.length_map, HN2.out]; exact hlk)
          rw [List.getElem_map, ← dg_lt] at hcell2
          obtain ⟨j, hj⟩ : ∃ j, j = i + k := ⟨_, rfl⟩
          have hst := HP.out.step hD HC.out.1 HC.out.2 (by omega)
          rw [← hj] at hst
          have hD2 : i * D ≤ 11 * D := Nat.mul_le_mul_right _ (by omega)
          have h3 := hst.2.1
          have h4 := hst.2.2
          have HT := Lib.hid hst.1
          clear hst
          have hg : (icells os)[j]? = some (iv (dg os j)) := icells_get os (by rw [HP.out.len]; omega)
          have hg1 : ∀ h : j < (icells os).size, (icells os)[j]'h = iv (dg os j) := fun h => by rw [Array.getElem?_eq_getElem h] at hg; exact Option.some.inj hg
          have hall : ∀ z : Nat, (grw (w.alloc (.cells (icells os) 3)) (z, x.2)).cell? (ad.add i) = some (iv (dg l i)) := fun z => Ext.cell ((ext_alloc _ _).trans (grw_ext _ _)) hcell
          have hbll : ∀ z : Nat, (grw (w.alloc (.cells (icells os) 3)) (z, x.2)).cell? (bd.add k) = some (iv (dg l2 k)) := fun z => Ext.cell ((ext_alloc _ _).trans (grw_ext _ _)) hcell2
          have w0 : IntKind.i64.wrap ((i : Int) + (k : Int)) = (j : Int) := by rw [IntWalk.i64_in _ (by omega)]; omega
          obtain ⟨m, hm⟩ : ∃ m, m = dg l i * dg l2 k := ⟨_, rfl⟩
          rw [← hm] at HT h4
          have hmi : (dg l i : Int) * (dg l2 k : Int) = (m : Int) := by rw [hm]; rfl
          have w1 : IntKind.i64.wrap ((dg l i : Int) * (dg l2 k : Int)) = (m : Int) := by rw [hmi]; exact IntWalk.i64_in _ (by omega)
          have w2 : IntKind.i64.wrap ((dg os j : Int) + (m : Int)) = (dg os j : Int) + (m : Int) := IntWalk.i64_in _ (by omega)
          have b1 : (j : Int) < 23 := by omega
          have b2 : (k : Int) < (n2 : Int) := by omega
          have b3 : (i : Int) < (n : Int) := by omega
          replace hj := Lib.hid hj
          replace hm := Lib.hid hm
          clear hmi
          go_wp2
          go_region
          all_goals
            go_wp2
            refine ⟨⟨k + 1, os.set j (dg os j + m), (x.1 + 1, x.2), by omega, by go_num, by rw [← icells_set]; rfl, HT⟩, by simp [intOf]; omega⟩
        · have hkn : k = n2 := by omega
          subst hkn
          have HT : Hid (MulInv D l l2 os (i + 1) 0) := Lib.hid (MulInv.row (by rw [HN2.out]; exact HP.out))
          go_wp2
          refine ⟨⟨i + 1, os, x, by omega, by go_num, rfl, HT⟩, by simp [intOf]; omega⟩
    · have hin : i = n := by omega
      subst hin
      have HT := Lib.hid (HD.out os HP.out)
      go_wp2_with (go_at_call 68; with_reducible refine (settle_any w os x _ HT.out).mono ?_; rintro e w' ⟨v, rfl, hv, hx⟩)
      go_ret
      exact ⟨_, rfl, hv, hx⟩

theorem in_list (f : Nat → UInt8) : ∃ l : List UInt8, l.length = 32 ∧ bsum (lb l) 32 = V f ∧ (∀ (w : World) (t : TypeId), Rd (w.alloc (.cells (bcells f) t)) (some ⟨w.heap.size, 0, none⟩) (l.map bv)) := by
  refine ⟨(List.range 32).map f, by simp, ?_, fun w t => ?_⟩
  · have key : ∀ n, n ≤ 32 → bsum (lb ((List.range 32).map f)) n = bsum f n := by
      intro n
      induction n with
      | zero => intro _; rfl
      | succ n ih =>
        intro h
        simp only [bsum]
        rw [ih (by omega), lb_lt (by simp; omega)]
        simp
    exact key 32 (by decide)
  · refine Rd.of_cells fun j u hu => ?_
    rw [show (Addr.add ⟨w.heap.size, 0, none⟩ j) = ⟨w.heap.size, j, none⟩ from by unfold Addr.add; split <;> simp_all]
    have hj : j < 32 := by
      rcases Nat.lt_or_ge j 32 with h | h
      · exact h
      · rw [List.getElem?_eq_none (by simpa using h)] at hu
        cases hu
    rw [World.cell?_alloc_at _ _ _ _ rfl, bcells_get f hj, ← hu]
    simp [hj, bv]
theorem V_lt (f : Nat → UInt8) : V f < 16777216 ^ 11 := Nat.lt_of_lt_of_le (bsum_lt f 32) (by decide)
set_option maxHeartbeats 4000000 in
theorem rin_any (f : Nat → UInt8) (w : World) :
    Calls Try.prog 15 #[.agg (bcells f)] w fun e w' => ∃ v, e = .returned v ∧ Num w' v (V f % (2 ^ 255 - 19)) 11 ∧ Ext w w' := by
  obtain ⟨l, h1, h2, h3⟩ := in_list f
  have h3 := h3 w 22
  have hof := of_any (some ⟨w.heap.size, 0, none⟩) 32 32 l _ h1 h3 (by decide)
  rw [h2] at hof
  go_enter Try.func15, Try.ntmps15
  go_wp2_with (first
    | (go_at_call 37; with_reducible refine hof.mono ?_; rintro e w' ⟨v, rfl, hv, hx⟩)
    | (go_at_call 60; with_reducible refine (mod_any _ v (V f) (hv.short (V_lt f))).mono ?_; rintro e w' ⟨v2, rfl, hv2, hx2⟩))
  go_ret
  exact ⟨_, rfl, hv2, ((ext_alloc _ _).trans hx).trans hx2⟩
end Go.Proofs.Ytndohjgfjbopnaa
