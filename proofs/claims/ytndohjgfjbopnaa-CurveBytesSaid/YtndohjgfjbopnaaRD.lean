import Derived.Test.YtndohjgfjbopnaaRC
import Derived.BigRegion
section
/-
  Walks of the document's answer: sums, differences, products, and what 32 bytes stand for.
-/
set_option linter.unusedSimpArgs false
set_option linter.unusedVariables false
namespace Go.Proofs.Ytndohjgfjbopnaa
open Go.RowKit Go.Cv Go.Cv.Dig
@[go_sem] theorem make_int23 (w : World) : (Instr.makeSlice 28 (.int .i64 23) (.int .i64 23)).run Try.prog w =
    .ok (.slice (some ⟨w.heap.size, 0, none⟩) 23 23) (w.alloc (.cells (icells (List.replicate 23 0)) 3)) := make_int 23 w (by decide)

set_option maxRecDepth 4000 in
set_option maxHeartbeats 4000000 in
theorem radd_any (w : World) (v1 v2 : Value) (x y : Nat) (h1 : Num w v1 x 11) (h2 : Num w v2 y 11) :
    Calls Try.prog 22 #[v1, v2] w fun e w' => ∃ v, e = .returned v ∧ Num w' v ((x + y) % (2 ^ 255 - 19)) 11 ∧ Ext w w' := by
  obtain ⟨A, n, c, l, rfl, hn, hc, hr, hcan, hval, hle⟩ := h1
  obtain ⟨B, n2, c2, l2, rfl, hn2, hc2, hr2, hcan2, hval2, hle2⟩ := h2
  have HN := Lib.hid hn
  have HN2 := Lib.hid hn2
  have HC := Lib.hid (And.intro hcan.1 hcan2.1)
  have HD : Hid (∀ os, AddInv l l2 os 11 → SetInv ((x + y) % (2 ^ 255 - 19)) os true) := Lib.hid fun os h => by rw [← hval, ← hval2]; exact h.done (by omega) (by omega)
  clear hn hn2 hcan hcan2 hval hval2
  go_enter Try.func22, Try.ntmps22
  go_wp2
  go_loopw [6] (fun t wr => ∃ (i : Nat) (os : List Nat) (x : Nat × Array Obj), i ≤ 11 ∧ t = .int .i64 i ∧ wr = grw (w.alloc (.cells (icells os) 3)) x ∧ Hid (AddInv l l2 os i)) (fun t _ => 11 - (intOf t).toNat)
  case atStart => exact ⟨0, List.replicate 23 0, _, by decide, rfl, grw_self _, Lib.hid (AddInv.start l l2)⟩
  case round =>
    obtain ⟨i, os, x, hi, rfl, rfl, HP⟩ := hrel
    have hlen : (icells os).size = 23 := by rw [icells_size, HP.out.len]
    by_cases hlt : i < 11
    · have h1 := HC.out.1.dg i
      have h2 := HC.out.2.dg i
      have HT := Lib.hid (HP.out.step HC.out.1 HC.out.2 hlt)
      have hg : (icells os)[i]? = some (iv (dg os i)) := icells_get os (by rw [HP.out.len]; omega)
      have e1 : ∀ X : Nat × Array Obj, Rd (grw (w.alloc (.cells (icells os) 3)) X) A (l.map iv) := fun X => hr.ext ((ext_alloc _ _).trans (grw_ext _ _))
      have e2 : ∀ X : Nat × Array Obj, Rd (grw (w.alloc (.cells (icells os) 3)) X) B (l2.map iv) := fun X => hr2.ext ((ext_alloc _ _).trans (grw_ext _ _))
      go_wp2_with (first
        | (go_at_call 61; with_reducible refine (digit_any A n c l i _ HN.out (e1 _) (by omega) (by omega)).mono ?_; rintro e w' ⟨rfl, rfl⟩)
        | (go_at_call 61; with_reducible refine (digit_any B n2 c2 l2 i _ HN2.out (e2 _) (by omega) (by omega)).mono ?_; rintro e w' ⟨rfl, rfl⟩))
      refine ⟨⟨i + 1, os.set i (dg l i + dg l2 i), _, by omega, by go_num, by rw [← icells_set]; rfl, HT⟩, by simp [intOf]; omega⟩
    · have hin : i = 11 := by omega
      subst hin
      have HT := Lib.hid (HD.out os HP.out)
      go_wp2_with (go_at_call 68; with_reducible refine (settle_any w os x _ HT.out).mono ?_; rintro e w' ⟨v, rfl, hv, hx⟩)
      go_ret
      exact ⟨_, rfl, hv, hx⟩

theorem al_one (w : World) (o : Obj) : (w.alloc o).heap.size = w.heap.size + 1 := by
  show (w.heap.push _).size = _
  rw [Array.size_push]
theorem al_size (w : World) (o o' : Obj) : (w.alloc o).heap.size = (w.alloc o').heap.size := by rw [al_one, al_one]
theorem p_new (w : World) :
    Calls Try.prog 56 #[] w fun e w' => e = .returned (.slice (some ⟨w.heap.size, 0, none⟩) 11 11) ∧ (∀ j, j < 11 → w'.cell? ⟨w.heap.size, j, none⟩ = some (iv (dg pdig j))) ∧ Ext w w' := by
  go_enter Try.func56, Try.ntmps56
  go_wp2
  go_ret
  refine ⟨rfl, fun j hj => ?_, ext_alloc _ _⟩
  rw [World.cell?_alloc_at _ _ _ _ rfl]
  rcases (by omega : j = 0 ∨ j = 1 ∨ j = 2 ∨ j = 3 ∨ j = 4 ∨ j = 5 ∨ j = 6 ∨ j = 7 ∨ j = 8 ∨ j = 9 ∨ j = 10) with rfl | rfl | rfl | rfl | rfl | rfl | rfl | rfl | rfl | rfl | rfl <;> rfl

set_option maxRecDepth 4000 in
set_option maxHeartbeats 4000000 in
theorem rsub_any (w : World) (v1 v2 : Value) (x y : Nat) (h1 : Num w v1 x 11) (h2 : Num w v2 y 11) (hy : y < 2 ^ 255) :
    Calls Try.prog 24 #[v1, v2] w fun e w' => ∃ v, e = .returned v ∧ Num w' v ((x + 2 * (2 ^ 255 - 19) - y) % (2 ^ 255 - 19)) 11 ∧ Ext w w' := by
  obtain ⟨A, n, c, l, rfl, hn, hc, hr, hcan, hval, hle⟩ := h1
  obtain ⟨B, n2, c2, l2, rfl, hn2, hc2, hr2, hcan2, hval2, hle2⟩ := h2
  have HN := Lib.hid hn
  have HN2 := Lib.hid hn2
  have HC := Lib.hid (And.intro hcan.1 hcan2.1)
  have HO := Lib.hid (sub_ok hcan2.1 (top_dg (by rw [hval2]; exact hy)))
  obtain ⟨N, hN⟩ : ∃ N, N = (x + 2 * (2 ^ 255 - 19) - y) % (2 ^ 255 - 19) := ⟨_, rfl⟩
  have HD : Hid (∀ os, SubInv l l2 os 11 → SetInv N os true) := Lib.hid fun os h => by rw [hN, ← hval, ← hval2]; exact h.done (by omega) (by omega)
  rw [← hN]
  clear hn hn2 hcan hcan2 hval hval2 hy hN
  go_enter Try.func24, Try.ntmps24
  go_wp2_with (go_at_call 56; with_reducible refine (p_new _).mono ?_; rintro e w' ⟨rfl, hD, hx⟩; obtain ⟨x', rfl⟩ := grw_of_ext hx; clear hx)
  have hP : ∀ (os : List Nat) (z j : Nat), j < 11 → (grw (w.alloc (.cells (icells os) 3)) (z, x'.2)).cell? ⟨w.heap.size + 1, j, none⟩ = some (iv (dg pdig j)) := by
    intro os z j hj
    have h := grw_cell_ge (w2 := w.alloc (.cells (icells os) 3)) (al_size _ _ _) (Nat.le_refl _) (hD j hj) z #[]
    rw [Array.append_empty, al_one] at h
    exact h
  clear hD
  go_loopw [7] (fun t wr => ∃ (i : Nat) (os : List Nat) (x : Nat × Array Obj), i ≤ 11 ∧ t = .int .i64 i ∧ wr = grw (w.alloc (.cells (icells os) 3)) x ∧ x.2 = x'.2 ∧ Hid (SubInv l l2 os i)) (fun t _ => 11 - (intOf t).toNat)
  case atStart => exact ⟨0, List.replicate 23 0, _, by decide, rfl, rfl, rfl, Lib.hid (SubInv.start l l2)⟩
  case round =>
    obtain ⟨i, os, x, hi, rfl, rfl, hx2, HP⟩ := hrel
    have hlen : (icells os).size = 23 := by rw [icells_size, HP.out.len]
    by_cases hlt : i < 11
    · have h1 := HC.out.1.dg i
      have h2 := HC.out.2.dg i
      have h3 := pdig_canon.1.dg i
      have h4 := HO.out i hlt
      have HT := Lib.hid (HP.out.step HC.out.1 hlt (by omega))
      have hg : (icells os)[i]? = some (iv (dg os i)) := icells_get os (by rw [HP.out.len]; omega)
      have e1 : ∀ X : Nat × Array Obj, Rd (grw (w.alloc (.cells (icells os) 3)) X) A (l.map iv) := fun X => hr.ext ((ext_alloc _ _).trans (grw_ext _ _))
      have e2 : ∀ X : Nat × Array Obj, Rd (grw (w.alloc (.cells (icells os) 3)) X) B (l2.map iv) := fun X => hr2.ext ((ext_alloc _ _).trans (grw_ext _ _))
      have hPx : ∀ z : Nat, (grw (w.alloc (.cells (icells os) 3)) (z, x.2)).cell? ⟨w.heap.size + 1, i, none⟩ = some (iv (dg pdig i)) := fun z => by rw [hx2]; exact hP os z i hlt
      obtain ⟨e, he⟩ : ∃ e, e = dg l i + 2 * dg pdig i - dg l2 i := ⟨_, rfl⟩
      rw [← he] at HT
      have w1 : IntKind.i64.wrap (2 * (dg pdig i : Int)) = 2 * (dg pdig i : Int) := IntWalk.i64_in _ (by omega)
      have w2 : IntKind.i64.wrap ((dg l i : Int) + 2 * (dg pdig i : Int)) = (dg l i : Int) + 2 * (dg pdig i : Int) := IntWalk.i64_in _ (by omega)
      have w3 : IntKind.i64.wrap ((dg l i : Int) + 2 * (dg pdig i : Int) - (dg l2 i : Int)) = (e : Int) := by rw [IntWalk.i64_in _ (by omega)]; omega
      have b1 : (i : Int) < 23 := by omega
      have b2 : (i : Int) < 11 := by omega
      replace hx2 := Lib.hid hx2
      clear hP he
      go_wp2
      go_region_law (first
        | (go_simp; go_at_call 61; (with_reducible refine (digit_any A n c l i _ HN.out (e1 _) (by omega) (by omega)).mono ?_); rintro e w' ⟨rfl, rfl⟩)
        | (go_simp; go_at_call 61; (with_reducible refine (digit_any B n2 c2 l2 i _ HN2.out (e2 _) (by omega) (by omega)).mono ?_); rintro e w' ⟨rfl, rfl⟩))
      all_goals
        go_wp2
        refine ⟨⟨i + 1, os.set i e, (x.1 + 1, x.2), by omega, by go_num, by rw [← icells_set], hx2.out, HT⟩, by simp [intOf]; omega⟩
    · have hin : i = 11 := by omega
      subst hin
      have HT := Lib.hid (HD.out os HP.out)
      go_wp2_with (go_at_call 68; with_reducible refine (settle_any w os x _ HT.out).mono ?_; rintro e w' ⟨v, rfl, hv, hx⟩)
      go_ret
      exact ⟨_, rfl, hv, hx⟩

set_option maxRecDepth 4000 in
set_option maxHeartbeats 4000000 in
theorem rmul_any (w : World) (v1 v2 : Value) (x y : Nat) (h1 : Num w v1 x 11) (h2 : Num w v2 y 11) :
    Calls Try.prog 26 #[v1, v2] w fun e w' => ∃ v, e = .returned v ∧ Num w' v ((x * y) % (2 ^ 255 - 19)) 11 ∧ Ext w w' := by
  obtain ⟨A, n, c, l, rfl, hn, hc, hr, hcan, hval, hle⟩ := h1
  obtain ⟨B, n2, c2, l2, rfl, hn2, hc2, hr2, hcan2, hval2, hle2⟩ := h2
  obtain ⟨N, hN⟩ : ∃ N, N = (x * y) % (2 ^ 255 - 19) := ⟨_, rfl⟩
  obtain ⟨D, hD⟩ : ∃ D, D = 281474976710656 := ⟨_, rfl⟩
  have HD : Hid (∀ os, MulInv D l l2 os n 0 → SetInv N os true) := Lib.hid fun os h => by rw [hN, ← hval, ← hval2]; rw [← hn] at h; exact h.done hD (by omega) (by omega) hcan.1 hcan2.1
  have HN := Lib.hid hn
  have HN2 := Lib.hid hn2
  have HC := Lib.hid (And.intro hcan.1 hcan2.1)
  rw [← hN]
  clear hn hn2 hcan hcan2 hval hval2 hN
  go_enter Try.func26, Try.ntmps26
  go_wp2
  go_loopw [6] (fun t wr => ∃ (i : Nat) (os : List Nat) (x : Nat × Array Obj), i ≤ n ∧ t = .int .i64 i ∧ wr = grw (w.alloc (.cells (icells os) 3)) x ∧ Hid (MulInv D l l2 os i 0)) (fun t _ => n - (intOf t).toNat)
  case atStart => exact ⟨0, List.replicate 23 0, _, by omega, rfl, grw_self _, Lib.hid (MulInv.start D l l2)⟩
  case round =>
    obtain ⟨i, os, x, hi, rfl, rfl, HP⟩ := hrel
    by_cases hlt : i < n
    · obtain ⟨ad, rfl, hcell⟩ := hr.at_ (k := i) (by rw [List.length_map, HN.out]; exact hlt)
      rw [List.getElem_map, ← dg_lt] at hcell
      go_wp2
      go_loopw [7] (fun t wr => ∃ (k : Nat) (os : List Nat) (x : Nat × Array Obj), k ≤ n2 ∧ t = .int .i64 k ∧ wr = grw (w.alloc (.cells (icells os) 3)) x ∧ Hid (MulInv D l l2 os i k)) (fun t _ => n2 - (intOf t).toNat)
      case atStart => exact ⟨0, os, x, by omega, rfl, rfl, HP⟩
      case round =>
        clear HP
        obtain ⟨k, os, x, hk, rfl, rfl, HP⟩ := hrel
        have hlen : (icells os).size = 23 := by rw [icells_size, HP.out.len]
        by_cases hlk : k < n2
        · obtain ⟨bd, rfl, hcell2⟩ := hr2.at_ (k := k) (by rw [List.length_map, HN2.out]; exact hlk)
          rw [List.getElem_map, ← dg_lt] at hcell2
          obtain ⟨j, hj⟩ : ∃ j, j = i + k := ⟨_, rfl⟩
          have hst := HP.out.step hD HC.out.1 HC.out.2 (by omega)
          rw [← hj] at hst
          have hD2 : i * D ≤ 11 * D := Nat.mul_le_mul_right _ (by omega)
          have h3 := hst.2.1
          have h4 := hst.2.2
          have HT := Lib.hid hst.1
          clear hst
          have hg : (icells os)[j]? = some (iv (dg os j)) := icells_get os (by rw [HP.out.len]; omega)
          have hg1 : ∀ h : j < (icells os).size, (icells os)[j]'h = iv (dg os j) := fun h => by rw [Array.getElem?_eq_getElem h] at hg; exact Option.some.inj hg
          have hall : ∀ z : Nat, (grw (w.alloc (.cells (icells os) 3)) (z, x.2)).cell? (ad.add i) = some (iv (dg l i)) := fun z => Ext.cell ((ext_alloc _ _).trans (grw_ext _ _)) hcell
          have hbll : ∀ z : Nat, (grw (w.alloc (.cells (icells os) 3)) (z, x.2)).cell? (bd.add k) = some (iv (dg l2 k)) := fun z => Ext.cell ((ext_alloc _ _).trans (grw_ext _ _)) hcell2
          have w0 : IntKind.i64.wrap ((i : Int) + (k : Int)) = (j : Int) := by rw [IntWalk.i64_in _ (by omega)]; omega
          obtain ⟨m, hm⟩ : ∃ m, m = dg l i * dg l2 k := ⟨_, rfl⟩
          rw [← hm] at HT h4
          have hmi : (dg l i : Int) * (dg l2 k : Int) = (m : Int) := by rw [hm]; rfl
          have w1 : IntKind.i64.wrap ((dg l i : Int) * (dg l2 k : Int)) = (m : Int) := by rw [hmi]; exact IntWalk.i64_in _ (by omega)
          have w2 : IntKind.i64.wrap ((dg os j : Int) + (m : Int)) = (dg os j : Int) + (m : Int) := IntWalk.i64_in _ (by omega)
          have b1 : (j : Int) < 23 := by omega
          have b2 : (k : Int) < (n2 : Int) := by omega
          have b3 : (i : Int) < (n : Int) := by omega
          replace hj := Lib.hid hj
          replace hm := Lib.hid hm
          clear hmi
          go_wp2
          go_region
          all_goals
            go_wp2
            refine ⟨⟨k + 1, os.set j (dg os j + m), (x.1 + 1, x.2), by omega, by go_num, by rw [← icells_set]; rfl, HT⟩, by simp [intOf]; omega⟩
        · have hkn : k = n2 := by omega
          subst hkn
          have HT : Hid (MulInv D l l2 os (i + 1) 0) := Lib.hid (MulInv.row (by rw [HN2.out]; exact HP.out))
          go_wp2
          refine ⟨⟨i + 1, os, x, by omega, by go_num, rfl, HT⟩, by simp [intOf]; omega⟩
    · have hin : i = n := by omega
      subst hin
      have HT := Lib.hid (HD.out os HP.out)
      go_wp2_with (go_at_call 68; with_reducible refine (settle_any w os x _ HT.out).mono ?_; rintro e w' ⟨v, rfl, hv, hx⟩)
      go_ret
      exact ⟨_, rfl, hv, hx⟩

theorem in_list (f : Nat → UInt8) : ∃ l : List UInt8, l.length = 32 ∧ bsum (lb l) 32 = V f ∧ (∀ (w : World) (t : TypeId), Rd (w.alloc (.cells (bcells f) t)) (some ⟨w.heap.size, 0, none⟩) (l.map bv)) := by
  refine ⟨(List.range 32).map f, by simp, ?_, fun w t => ?_⟩
  · have key : ∀ n, n ≤ 32 → bsum (lb ((List.range 32).map f)) n = bsum f n := by
      intro n
      induction n with
      | zero => intro _; rfl
      | succ n ih =>
        intro h
        simp only [bsum]
        rw [ih (by omega), lb_lt (by simp; omega)]
        simp
    exact key 32 (by decide)
  · refine Rd.of_cells fun j u hu => ?_
    rw [show (Addr.add ⟨w.heap.size, 0, none⟩ j) = ⟨w.heap.size, j, none⟩ from by unfold Addr.add; split <;> simp_all]
    have hj : j < 32 := by
      rcases Nat.lt_or_ge j 32 with h | h
      · exact h
      · rw [List.getElem?_eq_none (by simpa using h)] at hu
        cases hu
    rw [World.cell?_alloc_at _ _ _ _ rfl, bcells_get f hj, ← hu]
    simp [hj, bv]
theorem V_lt (f : Nat → UInt8) : V f < 16777216 ^ 11 := Nat.lt_of_lt_of_le (bsum_lt f 32) (by decide)
set_option maxHeartbeats 4000000 in
theorem rin_any (f : Nat → UInt8) (w : World) :
    Calls Try.prog 15 #[.agg (bcells f)] w fun e w' => ∃ v, e = .returned v ∧ Num w' v (V f % (2 ^ 255 - 19)) 11 ∧ Ext w w' := by
  obtain ⟨l, h1, h2, h3⟩ := in_list f
  have h3 := h3 w 22
  have hof := of_any (some ⟨w.heap.size, 0, none⟩) 32 32 l _ h1 h3 (by decide)
  rw [h2] at hof
  go_enter Try.func15, Try.ntmps15
  go_wp2_with (first
    | (go_at_call 37; with_reducible refine hof.mono ?_; rintro e w' ⟨v, rfl, hv, hx⟩)
    | (go_at_call 60; with_reducible refine (mod_any _ v (V f) (hv.short (V_lt f))).mono ?_; rintro e w' ⟨v2, rfl, hv2, hx2⟩))
  go_ret
  exact ⟨_, rfl, hv2, ((ext_alloc _ _).trans hx).trans hx2⟩
end Go.Proofs.Ytndohjgfjbopnaa
end
section
/-
  Walks of the document's answer: powers and the inverse.
-/
set_option linter.unusedSimpArgs false
set_option linter.unusedVariables false
namespace Go.Cv.Dig
theorem pow_odd {p o a n N : Nat} (h : (o * a ^ n) % p = N) (hn : n % 2 = 1) : ((o * a) % p * ((a * a) % p) ^ (n / 2)) % p = N := by
  have e : n = n / 2 * 2 + 1 := by omega
  rw [Nat.mul_mod, Nat.pow_mod, Nat.mod_mod, Nat.mod_mod, ← Nat.pow_mod, ← Nat.mul_mod, ← h]
  have e2 : a ^ n = a * (a * a) ^ (n / 2) := by
    conv => lhs; rw [e]
    rw [Nat.pow_succ, Nat.mul_comm (n / 2) 2, Nat.pow_mul, Nat.pow_two, Nat.mul_comm]
  rw [e2, Nat.mul_assoc]
theorem pow_even {p o a n N : Nat} (h : (o * a ^ n) % p = N) (hn : ¬ n % 2 = 1) : (o * ((a * a) % p) ^ (n / 2)) % p = N := by
  have e : n = n / 2 * 2 := by omega
  rw [Nat.mul_mod, Nat.pow_mod, Nat.mod_mod, ← Nat.pow_mod, ← Nat.mul_mod, ← h]
  have e2 : a ^ n = (a * a) ^ (n / 2) := by
    conv => lhs; rw [e]
    rw [Nat.mul_comm (n / 2) 2, Nat.pow_mul, Nat.pow_two]
  rw [e2]
theorem Canon.pos_len {l : List Nat} (h : Canon l) (hn : 0 < l.length) : 0 < dval l := by
  have := h.lb (List.ne_nil_of_length_pos hn)
  have h2 : 0 < 16777216 ^ (l.length - 1) := Nat.pow_pos (by decide)
  omega
end Go.Cv.Dig
namespace Go.Proofs.Ytndohjgfjbopnaa
open Go.RowKit Go.Cv Go.Cv.Dig
theorem Num.mono {w : World} {v : Value} {x N M : Nat} (h : Num w v x N) (hM : N ≤ M) : Num w v x M := by
  obtain ⟨A, n, c, l, rfl, hn, hc, hr, hl, hx, hN⟩ := h
  exact Num.mk hn hc hr hl hx (Nat.le_trans hN hM)
theorem num_lit (d : Nat) (h0 : d ≠ 0) (hd : d < 16777216) (w : World) (t : TypeId) : Num (w.alloc (.cells #[.int .i64 (d : Int)] t)) (.slice (some ⟨w.heap.size, 0, none⟩) 1 1) d 11 :=
  Num.mk (l := [d]) rfl (Nat.le_refl _) (rd_new_one w (iv d) t) ⟨Canon.of_snoc hd, by simpa using h0⟩ (dval_one d) (by decide)
theorem num_1 (w : World) (t : TypeId) : Num (w.alloc (.cells #[.int .i64 1] t)) (.slice (some ⟨w.heap.size, 0, none⟩) 1 1) 1 11 := num_lit 1 (by decide) (by decide) w t
theorem num_2 (w : World) (t : TypeId) : Num (w.alloc (.cells #[.int .i64 2] t)) (.slice (some ⟨w.heap.size, 0, none⟩) 1 1) 2 11 := num_lit 2 (by decide) (by decide) w t
theorem num_3 (w : World) (t : TypeId) : Num (w.alloc (.cells #[.int .i64 3] t)) (.slice (some ⟨w.heap.size, 0, none⟩) 1 1) 3 11 := num_lit 3 (by decide) (by decide) w t

set_option maxRecDepth 4000 in
set_option maxHeartbeats 4000000 in
theorem rpower_any (w : World) (va vn : Value) (a y P : Nat) (hP : P = 2 ^ 255 - 19) (ha : Num w va a 11) (hn : Num w vn y 11) :
    Calls Try.prog 62 #[va, vn] w fun e w' => ∃ v, e = .returned v ∧ Num w' v (a ^ y % P) 11 ∧ Ext w w' := by
  obtain ⟨N, hN⟩ : ∃ N, N = a ^ y % P := ⟨_, rfl⟩
  rw [← hN]
  replace hN := Lib.hid hN
  have HA := Lib.hid ha
  have HY := Lib.hid hn
  obtain ⟨A, n1, c1, l1, rfl, -⟩ := ha
  obtain ⟨B, n2, c2, l2, rfl, -⟩ := hn
  obtain ⟨R, hR⟩ : ∃ R : World → Value → Value → Value → Nat → Prop, R = fun wr v0 v1 v5 n => ∃ a' o, Num wr v0 a' 11 ∧ Num wr v1 n 11 ∧ Num wr v5 o 11 ∧ Ext w wr ∧ o < P ∧ (o * a' ^ n) % P = N := ⟨_, rfl⟩
  replace hR := Lib.hid hR
  have hM : ∀ (w : World) (v1 v2 : Value) (x y : Nat), Num w v1 x 11 → Num w v2 y 11 → Calls Try.prog 26 #[v1, v2] w fun e w' => ∃ v, e = .returned v ∧ Num w' v ((x * y) % P) 11 ∧ Ext w w' := by
    rw [hP]; exact rmul_any
  have hP2 : Hid (1 < P) := Lib.hid (by rw [hP]; decide)
  clear hP
  go_enter Try.func62, Try.ntmps62
  go_wp2
  go_loopw [0, 1, 5] (fun v0 v1 v5 wr => ∃ n, R wr v0 v1 v5 n) (fun v0 v1 v5 wr => leastN (R wr v0 v1 v5))
  case atStart => exact ⟨y, by rw [hR.out]; exact ⟨a, 1, HA.out.ext (ext_alloc _ _), HY.out.ext (ext_alloc _ _), num_1 _ _, ext_alloc _ _, hP2.out, by rw [Nat.one_mul]; exact hN.out.symm⟩⟩
  case round =>
    have hsp := leastN_spec hrel
    clear hrel
    obtain ⟨M, hx⟩ : ∃ x, x = leastN (R wr u0 u1 u5) := ⟨_, rfl⟩
    rw [← hx, hR.out] at hsp
    replace hx := Lib.hid hx
    obtain ⟨a', o, h0, h1, h5, hE, ho, hpow⟩ := hsp
    replace hpow := Lib.hid hpow
    obtain ⟨C, m, c, l, rfl, hm, hc, hr, hcan, hval, hle⟩ := h1
    have HM := Lib.hid hm
    have HC := Lib.hid hcan
    have HV := Lib.hid hval
    clear hm hcan hval
    by_cases h00 : m = 0
    · subst h00
      have h6 : Hid (M = 0) := Lib.hid (by
        have : l = [] := List.eq_nil_of_length_eq_zero HM.out
        rw [← HV.out, this]; rfl)
      have h7 : Hid (o = N) := Lib.hid (by
        have := hpow.out
        rw [h6.out, Nat.pow_zero, Nat.mul_one, Nat.mod_eq_of_lt ho] at this
        exact this)
      go_wp2
      go_ret
      exact ⟨_, rfl, h7.out ▸ h5, hE⟩
    · have hm' : (0 : Int) < (m : Int) := by omega
      have hpos : 0 < M := by rw [← HV.out]; exact HC.out.pos_len (by rw [HM.out]; omega)
      have hhalf := half_any C m c l wr HM.out HC.out hr (by omega)
      rw [HV.out] at hhalf
      by_cases hodd : M % 2 = 1
      · rw [show (M % 2 == 1) = true from by simp [hodd]] at hhalf
        have hP1 := Lib.hid (pow_odd hpow.out hodd)
        go_wp2_with (first
          | (go_at_call 66; with_reducible refine hhalf.mono ?_; rintro e w1 ⟨v1, rfl, hv1, hx1⟩)
          | (go_at_call 26; with_reducible refine (hM _ _ _ o a' (h5.ext hx1) (h0.ext hx1)).mono ?_; rintro e w2 ⟨v2, rfl, hv2, hx2⟩)
          | (go_at_call 26; with_reducible refine (hM _ _ _ a' a' (h0.ext (hx1.trans hx2)) (h0.ext (hx1.trans hx2))).mono ?_; rintro e w3 ⟨v3, rfl, hv3, hx3⟩))
        refine leastN_round (n := M / 2) ?_ (by omega) hx.out
        rw [hR.out]
        exact ⟨_, _, hv3, (hv1.ext (hx2.trans hx3)).mono (by omega), hv2.ext hx3, hE.trans (hx1.trans (hx2.trans hx3)), Nat.mod_lt _ (by have := hP2.out; omega), hP1.out⟩
      · rw [show (M % 2 == 1) = false from by simp [hodd]] at hhalf
        have hP1 := Lib.hid (pow_even hpow.out hodd)
        go_wp2_with (first
          | (go_at_call 66; with_reducible refine hhalf.mono ?_; rintro e w1 ⟨v1, rfl, hv1, hx1⟩)
          | (go_at_call 26; with_reducible refine (hM _ _ _ a' a' (h0.ext hx1) (h0.ext hx1)).mono ?_; rintro e w3 ⟨v3, rfl, hv3, hx3⟩))
        refine leastN_round (n := M / 2) ?_ (by omega) hx.out
        rw [hR.out]
        exact ⟨_, _, hv3, (hv1.ext hx3).mono (by omega), h5.ext (hx1.trans hx3), hE.trans (hx1.trans hx3), ho, hP1.out⟩
end Go.Proofs.Ytndohjgfjbopnaa
end
section
/-
  Walks of the document's answer: the inverse and the root.
-/
set_option linter.unusedSimpArgs false
set_option linter.unusedVariables false
namespace Go.Cv.Dig
theorem dval_par (l : List Nat) : dval l % 2 = dg l 0 % 2 := by
  cases l with
  | nil => rfl
  | cons d l =>
    have e : dg (d :: l) 0 = d := by simp [dg]
    rw [e]; simp only [dval]; omega
end Go.Cv.Dig
namespace Go.Proofs.Ytndohjgfjbopnaa
open Go.RowKit Go.Cv Go.Cv.Dig
theorem p_num (w : World) : Calls Try.prog 56 #[] w fun e w' => ∃ v, e = .returned v ∧ Num w' v (2 ^ 255 - 19) 11 ∧ Ext w w' := by
  refine (p_new w).mono ?_
  rintro e w' ⟨rfl, h, hx⟩
  refine ⟨_, rfl, Num.mk (l := pdig) rfl (Nat.le_refl _) ?_ pdig_canon pdig_val (by decide), hx⟩
  refine Rd.of_cells fun j u hu => ?_
  have hj : j < 11 := by have := (List.getElem?_eq_some_iff.1 hu).1; simpa [pdig] using this
  rw [show (Addr.add ⟨w.heap.size, 0, none⟩ j) = ⟨w.heap.size, j, none⟩ from by unfold Addr.add; split <;> simp_all]
  rw [h j hj, ← hu]
  have hj2 : j < pdig.length := hj
  rw [List.getElem?_map, List.getElem?_eq_getElem hj2, dg_lt hj2]; rfl
theorem less_num (w : World) (v1 v2 : Value) (x y : Nat) (h1 : Num w v1 x 11) (h2 : Num w v2 y 11) (hle : y ≤ x) :
    Calls Try.prog 63 #[v1, v2] w fun e w' => ∃ v, e = .returned v ∧ Num w' v (x - y) 11 ∧ Ext w w' := by
  obtain ⟨A, n, c, l, rfl, hn, hc, hr, hcan, rfl, hl⟩ := h1
  obtain ⟨B, n2, c2, l2, rfl, hn2, hc2, hr2, hcan2, rfl, hl2⟩ := h2
  refine (less_any A B n n2 c c2 l l2 w hn hn2 hcan hcan2 hle hr hr2 (by omega) (by omega)).mono ?_
  rintro e w' ⟨v, rfl, hv, hx⟩
  exact ⟨v, rfl, hv.mono hl, hx⟩
theorem plus_num (w : World) (v1 v2 : Value) (x y : Nat) (h1 : Num w v1 x 11) (h2 : Num w v2 y 11) (hlt : x + y < 16777216 ^ 11) :
    Calls Try.prog 65 #[v1, v2] w fun e w' => ∃ v, e = .returned v ∧ Num w' v (x + y) 11 ∧ Ext w w' := by
  obtain ⟨A, n, c, l, rfl, hn, hc, hr, hcan, rfl, hl⟩ := h1
  obtain ⟨B, n2, c2, l2, rfl, hn2, hc2, hr2, hcan2, rfl, hl2⟩ := h2
  refine (plus_any A B n n2 c c2 l l2 w hn hn2 hcan hcan2 hr hr2 (by omega) (by omega)).mono ?_
  rintro e w' ⟨v, rfl, hv, hx⟩
  exact ⟨v, rfl, hv.short hlt, hx⟩
theorem half_num (w : World) (v1 : Value) (x : Nat) (h1 : Num w v1 x 11) :
    Calls Try.prog 66 #[v1] w fun e w' => ∃ v b, e = .returned (.tuple #[v, .bool b]) ∧ Num w' v (x / 2) 11 ∧ Ext w w' := by
  obtain ⟨A, n, c, l, rfl, hn, hc, hr, hcan, rfl, hl⟩ := h1
  refine (half_any A n c l w hn hcan hr (by omega)).mono ?_
  rintro e w' ⟨v, rfl, hv, hx⟩
  exact ⟨v, _, rfl, hv.mono hl, hx⟩
theorem cmp_num (w : World) (v1 v2 : Value) (x y : Nat) (h1 : Num w v1 x 11) (h2 : Num w v2 y 11) :
    Calls Try.prog 36 #[v1, v2] w fun e w' => ∃ c, e = .returned (.int .i64 c) ∧ (x = y → c = 0) ∧ (x ≠ y → c ≠ 0) ∧ Ext w w' := by
  obtain ⟨A, n, c, l, rfl, hn, hc, hr, hcan, rfl, hl⟩ := h1
  obtain ⟨B, n2, c2, l2, rfl, hn2, hc2, hr2, hcan2, rfl, hl2⟩ := h2
  refine (cmp_any A B n n2 c c2 l l2 w hn hn2 hcan hcan2 hr hr2 (by omega) (by omega)).mono ?_
  rintro e w' ⟨k, rfl, hk, hx⟩
  unfold cmpIs at hk
  exact ⟨k, rfl, by omega, by omega, hx⟩
theorem digit_num (w : World) (v1 : Value) (x : Nat) (h1 : Num w v1 x 11) :
    Calls Try.prog 61 #[v1, .int .i64 0] w fun e w' => ∃ d : Nat, e = .returned (iv d) ∧ d % 2 = x % 2 ∧ d < 16777216 ∧ w' = w := by
  obtain ⟨A, n, c, l, rfl, hn, hc, hr, hcan, rfl, hl⟩ := h1
  refine (digit_zero A n c l w hn hr (by omega)).mono ?_
  rintro e w' ⟨rfl, rfl⟩
  exact ⟨_, rfl, (dval_par l).symm, hcan.1.dg 0, rfl⟩
theorem num_nil (w : World) : Num w (.slice none 0 0) 0 11 := Num.mk (l := []) rfl (Nat.le_refl _) (fun k v h => by simp at h) Canon.nil_ rfl (by decide)

set_option maxHeartbeats 4000000 in
theorem rinv_any (w : World) (va : Value) (a P : Nat) (hP : P = 2 ^ 255 - 19) (ha : Num w va a 11) :
    Calls Try.prog 18 #[va] w fun e w' => ∃ v, e = .returned v ∧ Num w' v (a ^ (P - 2) % P) 11 ∧ Ext w w' := by
  have hp := p_num
  rw [← hP] at hp
  have HP := Lib.hid hP
  have hP2 : 2 ≤ P := by rw [hP]; decide
  clear hP
  go_enter Try.func18, Try.ntmps18
  go_wp2_with (first
    | (go_at_call 56; with_reducible refine (hp _).mono ?_; rintro e w1 ⟨v1, rfl, hv1, hx1⟩)
    | (go_at_call 63; with_reducible refine (less_num _ v1 _ P 2 (hv1.ext (ext_alloc _ _)) (num_2 _ _) hP2).mono ?_; rintro e w2 ⟨v2, rfl, hv2, hx2⟩)
    | (go_at_call 62; with_reducible refine (rpower_any _ va v2 a (P - 2) P HP.out (ha.ext (hx1.trans ((ext_alloc _ _).trans hx2))) hv2).mono ?_; rintro e w3 ⟨v3, rfl, hv3, hx3⟩))
  go_ret
  exact ⟨_, rfl, hv3, hx1.trans ((ext_alloc _ _).trans (hx2.trans hx3))⟩
end Go.Proofs.Ytndohjgfjbopnaa
end
section
/-
  Walks of the document's answer: the root.
-/
set_option linter.unusedSimpArgs false
set_option linter.unusedVariables false
namespace Go.Proofs.Ytndohjgfjbopnaa
open Go.RowKit Go.Cv Go.Cv.Dig
theorem tmod2_1 {d r : Nat} (hd : d % 2 = r % 2) (hr : r % 2 = 1) : (d : Int).tmod 2 = 1 := by
  rw [show (d : Int).tmod 2 = ((d % 2 : Nat) : Int) from rfl, hd, hr]; rfl
theorem tmod2_0 {d r : Nat} (hd : d % 2 = r % 2) (hr : r % 2 = 0) : (d : Int).tmod 2 = 0 := by
  rw [show (d : Int).tmod 2 = ((d % 2 : Nat) : Int) from rfl, hd, hr]; rfl

set_option maxRecDepth 4000 in
set_option maxHeartbeats 8000000 in
theorem rroot_any (w0 : World) (va : Value) (x P : Nat) (hP : P = 2 ^ 255 - 19) (ha : Num w0 va x 11) (r0 r : Nat)
    (h0 : r0 = x ^ ((P + 3) / 2 / 2 / 2) % P) (h1 : (r0 * r0) % P = x → r = r0) (h2 : (r0 * r0) % P ≠ x → r = (r0 * (2 ^ ((P - 1) / 2 / 2) % P)) % P) :
    Calls Try.prog 20 #[va] w0 fun e w' => ∃ v, e = .returned (.tuple #[v, .bool (decide ((r * r) % P = x))]) ∧ ((r * r) % P = x → Num w' v (if r % 2 = 1 then (0 + 2 * P - r) % P else r) 11) ∧ Ext w0 w' := by
  have hp := p_num
  rw [← hP] at hp
  have HP := Lib.hid hP
  have hM : ∀ (w : World) (v1 v2 : Value) (x y : Nat), Num w v1 x 11 → Num w v2 y 11 → Calls Try.prog 26 #[v1, v2] w fun e w' => ∃ v, e = .returned v ∧ Num w' v ((x * y) % P) 11 ∧ Ext w w' := by
    rw [hP]; exact rmul_any
  have hS : ∀ (w : World) (v2 : Value) (y : Nat), Num w v2 y 11 → y < P → Calls Try.prog 24 #[.slice none 0 0, v2] w fun e w' => ∃ v, e = .returned v ∧ Num w' v ((0 + 2 * P - y) % P) 11 ∧ Ext w w' := by
    intro w v2 y h hy
    rw [hP] at hy ⊢
    exact rsub_any w _ v2 0 y (num_nil w) h (by omega)
  have hP3 : Hid (P + 3 < 16777216 ^ 11 ∧ 1 ≤ P) := Lib.hid (by rw [hP]; decide)
  have hrP : Hid (r < P) := Lib.hid (by
    have hpos : 0 < P := by rw [hP]; decide
    by_cases h : (r0 * r0) % P = x
    · rw [h1 h, h0]; exact Nat.mod_lt _ hpos
    · rw [h2 h]; exact Nat.mod_lt _ hpos)
  have H0 := Lib.hid h0
  have H1 := Lib.hid h1
  have H2 := Lib.hid h2
  clear h0 h1 h2 hP
  obtain ⟨q, hq⟩ : ∃ q, q = (if r % 2 = 1 then (0 + 2 * P - r) % P else r) := ⟨_, rfl⟩
  rw [← hq]
  replace hq := Lib.hid hq
  obtain ⟨kb, hkb⟩ : ∃ kb, kb = decide ((r * r) % P = x) := ⟨_, rfl⟩
  rw [← hkb]
  replace hkb := Lib.hid hkb
  obtain ⟨E, hE⟩ : ∃ E, E = (P + 3) / 2 / 2 / 2 := ⟨_, rfl⟩
  rw [← hE] at H0
  replace hE := Lib.hid hE
  go_enter Try.func20, Try.ntmps20
  go_wp2_with (first
    | (go_at_call 56; with_reducible refine (hp _).mono ?_; rintro e w1 ⟨v1, rfl, hv1, hx1⟩)
    | (go_at_call 65; with_reducible refine (plus_num _ v1 _ P 3 (hv1.ext (ext_alloc _ _)) (num_3 _ _) hP3.out.1).mono ?_; rintro e w2 ⟨v2, rfl, hv2, hx2⟩))
  have hx02 : Ext w0 w2 := hx1.trans ((ext_alloc _ _).trans hx2)
  clear hv1 hx1 hx2
  refine wp_loop_rounds 4 ?_
  rw [rounds_succ]
  go_wp2_with (go_at_call 66; with_reducible refine (half_num _ v2 _ hv2).mono ?_; rintro e w3 ⟨v3, b3, rfl, hv3, hx3⟩)
  rw [rounds_succ]
  go_wp2_with (go_at_call 66; with_reducible refine (half_num _ v3 _ hv3).mono ?_; rintro e w4 ⟨v4, b4, rfl, hv4, hx4⟩)
  rw [rounds_succ]
  go_wp2_with (go_at_call 66; with_reducible refine (half_num _ v4 _ hv4).mono ?_; rintro e w5 ⟨v5, b5, rfl, hv5, hx5⟩)
  rw [rounds_succ]
  have hx05 : Ext w0 w5 := hx02.trans (hx3.trans (hx4.trans hx5))
  rw [← hE.out] at hv5
  clear hv2 hv3 hv4 hx02 hx3 hx4 hx5
  go_upto_region 7 with (go_at_call 62; with_reducible refine (rpower_any _ va v5 x E P HP.out (ha.ext hx05) hv5).mono ?_; rintro e w6 ⟨v6, rfl, hv6, hx6⟩)
  have hx06 : Ext w0 w6 := hx05.trans hx6
  rw [← H0.out] at hv6
  clear hv5 hx05 hx6
  by_cases hc : (r0 * r0) % P = x
  · obtain rfl := H1.out hc
    have hc1 := Lib.hid hc
    clear hc
    by_cases hk : (r * r) % P = x
    · have hkt : kb = true := by rw [hkb.out]; exact decide_eq_true hk
      subst hkt
      replace hk := Lib.hid hk
      by_cases hodd : r % 2 = 1
      · go_wp2_with (first
          | (go_at_call 26; with_reducible refine (hM _ v6 v6 r r hv6 hv6).mono ?_; rintro e w7 ⟨v7, rfl, hv7, hx7⟩)
          | (go_at_call 36; with_reducible refine (cmp_num _ v7 va _ x hv7 (ha.ext (hx06.trans hx7))).mono ?_; rintro e w8 ⟨c8, rfl, hc8, -, hx8⟩; have hc9 := hc8 hc1.out; subst hc9; clear hc8; have hvr := hv6.ext (hx7.trans hx8); have hxr := hx06.trans (hx7.trans hx8))
          | (go_at_call 26; with_reducible refine (hM _ v6 v6 r r hvr hvr).mono ?_; rintro e w20 ⟨v20, rfl, hv20, hx20⟩)
          | (go_at_call 36; with_reducible refine (cmp_num _ v20 va _ x hv20 (ha.ext (hxr.trans hx20))).mono ?_; rintro e w21 ⟨c21, rfl, hc21, -, hx21⟩; have hc22 := hc21 hk.out; subst hc22; clear hc21)
          | (go_at_call 61; with_reducible refine (digit_num _ v6 r (hvr.ext (hx20.trans hx21))).mono ?_; rintro e w22 ⟨d, rfl, hd, hdl, rfl⟩; have t1 : (d : Int).tmod 2 = 1 := tmod2_1 hd hodd)
          | (go_at_call 24; with_reducible refine (hS _ v6 r (hvr.ext (hx20.trans hx21)) hrP.out).mono ?_; rintro e w23 ⟨v23, rfl, hv23, hx23⟩))
        go_ret2
        exact ⟨_, rfl, fun _ => by rw [hq.out, if_pos hodd]; exact hv23, hxr.trans (hx20.trans (hx21.trans hx23))⟩
      · have hod0 : r % 2 = 0 := by omega
        go_wp2_with (first
          | (go_at_call 26; with_reducible refine (hM _ v6 v6 r r hv6 hv6).mono ?_; rintro e w7 ⟨v7, rfl, hv7, hx7⟩)
          | (go_at_call 36; with_reducible refine (cmp_num _ v7 va _ x hv7 (ha.ext (hx06.trans hx7))).mono ?_; rintro e w8 ⟨c8, rfl, hc8, -, hx8⟩; have hc9 := hc8 hc1.out; subst hc9; clear hc8; have hvr := hv6.ext (hx7.trans hx8); have hxr := hx06.trans (hx7.trans hx8))
          | (go_at_call 26; with_reducible refine (hM _ v6 v6 r r hvr hvr).mono ?_; rintro e w20 ⟨v20, rfl, hv20, hx20⟩)
          | (go_at_call 36; with_reducible refine (cmp_num _ v20 va _ x hv20 (ha.ext (hxr.trans hx20))).mono ?_; rintro e w21 ⟨c21, rfl, hc21, -, hx21⟩; have hc22 := hc21 hk.out; subst hc22; clear hc21)
          | (go_at_call 61; with_reducible refine (digit_num _ v6 r (hvr.ext (hx20.trans hx21))).mono ?_; rintro e w22 ⟨d, rfl, hd, hdl, rfl⟩; have t1 : (d : Int).tmod 2 = 0 := tmod2_0 hd hod0))
        go_ret2
        exact ⟨_, rfl, fun _ => by rw [hq.out, if_neg hodd]; exact hvr.ext (hx20.trans hx21), hxr.trans (hx20.trans hx21)⟩
    · exact absurd hc1.out hk
  · have hr := Lib.hid (H2.out hc)
    have hc1 := Lib.hid hc
    clear hc
    by_cases hk : (r * r) % P = x
    · have hkt : kb = true := by rw [hkb.out]; exact decide_eq_true hk
      subst hkt
      replace hk := Lib.hid hk
      by_cases hodd : r % 2 = 1
      · go_wp2_with (first
          | (go_at_call 26; with_reducible refine (hM _ v6 v6 r0 r0 hv6 hv6).mono ?_; rintro e w7 ⟨v7, rfl, hv7, hx7⟩)
          | (go_at_call 36; with_reducible refine (cmp_num _ v7 va _ x hv7 (ha.ext (hx06.trans hx7))).mono ?_; rintro e w8 ⟨c8, rfl, -, hc8, hx8⟩; have hc9 := hc8 hc1.out; clear hc8)
          | (go_at_call 56; with_reducible refine (hp _).mono ?_; rintro e w9 ⟨v9, rfl, hv9, hx9⟩)
          | (go_at_call 63; with_reducible refine (less_num _ v9 _ P 1 (hv9.ext (ext_alloc _ _)) (num_1 _ _) hP3.out.2).mono ?_; rintro e w10 ⟨v10, rfl, hv10, hx10⟩)
          | (go_at_call 66; with_reducible refine (half_num _ v10 _ hv10).mono ?_; rintro e w11 ⟨v11, b11, rfl, hv11, hx11⟩)
          | (go_at_call 66; with_reducible refine (half_num _ v11 _ hv11).mono ?_; rintro e w12 ⟨v12, b12, rfl, hv12, hx12⟩)
          | (go_at_call 62; with_reducible refine (rpower_any _ _ v12 2 _ P HP.out (num_2 _ _) (hv12.ext (ext_alloc _ _))).mono ?_; rintro e w13 ⟨v13, rfl, hv13, hx13⟩)
          | (go_at_call 26; with_reducible refine (hM _ v6 v13 r0 _ (hv6.ext (hx7.trans (hx8.trans (hx9.trans ((ext_alloc _ _).trans (hx10.trans (hx11.trans (hx12.trans ((ext_alloc _ _).trans hx13))))))))) hv13).mono ?_; rintro e w14 ⟨v14, rfl, hv14, hx14⟩; have hvr := hr.out ▸ hv14; have hxr := hx06.trans (hx7.trans (hx8.trans (hx9.trans ((ext_alloc _ _).trans (hx10.trans (hx11.trans (hx12.trans ((ext_alloc _ _).trans (hx13.trans hx14))))))))))
          | (go_at_call 26; with_reducible refine (hM _ v14 v14 r r hvr hvr).mono ?_; rintro e w20 ⟨v20, rfl, hv20, hx20⟩)
          | (go_at_call 36; with_reducible refine (cmp_num _ v20 va _ x hv20 (ha.ext (hxr.trans hx20))).mono ?_; rintro e w21 ⟨c21, rfl, hc21, -, hx21⟩; have hc22 := hc21 hk.out; subst hc22; clear hc21)
          | (go_at_call 61; with_reducible refine (digit_num _ v14 r (hvr.ext (hx20.trans hx21))).mono ?_; rintro e w22 ⟨d, rfl, hd, hdl, rfl⟩; have t1 : (d : Int).tmod 2 = 1 := tmod2_1 hd hodd)
          | (go_at_call 24; with_reducible refine (hS _ v14 r (hvr.ext (hx20.trans hx21)) hrP.out).mono ?_; rintro e w23 ⟨v23, rfl, hv23, hx23⟩))
        go_ret2
        exact ⟨_, rfl, fun _ => by rw [hq.out, if_pos hodd]; exact hv23, hxr.trans (hx20.trans (hx21.trans hx23))⟩
      · have hod0 : r % 2 = 0 := by omega
        go_wp2_with (first
          | (go_at_call 26; with_reducible refine (hM _ v6 v6 r0 r0 hv6 hv6).mono ?_; rintro e w7 ⟨v7, rfl, hv7, hx7⟩)
          | (go_at_call 36; with_reducible refine (cmp_num _ v7 va _ x hv7 (ha.ext (hx06.trans hx7))).mono ?_; rintro e w8 ⟨c8, rfl, -, hc8, hx8⟩; have hc9 := hc8 hc1.out; clear hc8)
          | (go_at_call 56; with_reducible refine (hp _).mono ?_; rintro e w9 ⟨v9, rfl, hv9, hx9⟩)
          | (go_at_call 63; with_reducible refine (less_num _ v9 _ P 1 (hv9.ext (ext_alloc _ _)) (num_1 _ _) hP3.out.2).mono ?_; rintro e w10 ⟨v10, rfl, hv10, hx10⟩)
          | (go_at_call 66; with_reducible refine (half_num _ v10 _ hv10).mono ?_; rintro e w11 ⟨v11, b11, rfl, hv11, hx11⟩)
          | (go_at_call 66; with_reducible refine (half_num _ v11 _ hv11).mono ?_; rintro e w12 ⟨v12, b12, rfl, hv12, hx12⟩)
          | (go_at_call 62; with_reducible refine (rpower_any _ _ v12 2 _ P HP.out (num_2 _ _) (hv12.ext (ext_alloc _ _))).mono ?_; rintro e w13 ⟨v13, rfl, hv13, hx13⟩)
          | (go_at_call 26; with_reducible refine (hM _ v6 v13 r0 _ (hv6.ext (hx7.trans (hx8.trans (hx9.trans ((ext_alloc _ _).trans (hx10.trans (hx11.trans (hx12.trans ((ext_alloc _ _).trans hx13))))))))) hv13).mono ?_; rintro e w14 ⟨v14, rfl, hv14, hx14⟩; have hvr := hr.out ▸ hv14; have hxr := hx06.trans (hx7.trans (hx8.trans (hx9.trans ((ext_alloc _ _).trans (hx10.trans (hx11.trans (hx12.trans ((ext_alloc _ _).trans (hx13.trans hx14))))))))))
          | (go_at_call 26; with_reducible refine (hM _ v14 v14 r r hvr hvr).mono ?_; rintro e w20 ⟨v20, rfl, hv20, hx20⟩)
          | (go_at_call 36; with_reducible refine (cmp_num _ v20 va _ x hv20 (ha.ext (hxr.trans hx20))).mono ?_; rintro e w21 ⟨c21, rfl, hc21, -, hx21⟩; have hc22 := hc21 hk.out; subst hc22; clear hc21)
          | (go_at_call 61; with_reducible refine (digit_num _ v14 r (hvr.ext (hx20.trans hx21))).mono ?_; rintro e w22 ⟨d, rfl, hd, hdl, rfl⟩; have t1 : (d : Int).tmod 2 = 0 := tmod2_0 hd hod0))
        go_ret2
        exact ⟨_, rfl, fun _ => by rw [hq.out, if_neg hodd]; exact hvr.ext (hx20.trans hx21), hxr.trans (hx20.trans hx21)⟩
    · have hkt : kb = false := by rw [hkb.out]; exact decide_eq_false hk
      subst hkt
      replace hk := Lib.hid hk
      go_wp2_with (first
        | (go_at_call 26; with_reducible refine (hM _ v6 v6 r0 r0 hv6 hv6).mono ?_; rintro e w7 ⟨v7, rfl, hv7, hx7⟩)
        | (go_at_call 36; with_reducible refine (cmp_num _ v7 va _ x hv7 (ha.ext (hx06.trans hx7))).mono ?_; rintro e w8 ⟨c8, rfl, -, hc8, hx8⟩; have hc9 := hc8 hc1.out; clear hc8)
        | (go_at_call 56; with_reducible refine (hp _).mono ?_; rintro e w9 ⟨v9, rfl, hv9, hx9⟩)
        | (go_at_call 63; with_reducible refine (less_num _ v9 _ P 1 (hv9.ext (ext_alloc _ _)) (num_1 _ _) hP3.out.2).mono ?_; rintro e w10 ⟨v10, rfl, hv10, hx10⟩)
        | (go_at_call 66; with_reducible refine (half_num _ v10 _ hv10).mono ?_; rintro e w11 ⟨v11, b11, rfl, hv11, hx11⟩)
        | (go_at_call 66; with_reducible refine (half_num _ v11 _ hv11).mono ?_; rintro e w12 ⟨v12, b12, rfl, hv12, hx12⟩)
        | (go_at_call 62; with_reducible refine (rpower_any _ _ v12 2 _ P HP.out (num_2 _ _) (hv12.ext (ext_alloc _ _))).mono ?_; rintro e w13 ⟨v13, rfl, hv13, hx13⟩)
        | (go_at_call 26; with_reducible refine (hM _ v6 v13 r0 _ (hv6.ext (hx7.trans (hx8.trans (hx9.trans ((ext_alloc _ _).trans (hx10.trans (hx11.trans (hx12.trans ((ext_alloc _ _).trans hx13))))))))) hv13).mono ?_; rintro e w14 ⟨v14, rfl, hv14, hx14⟩; have hvr := hr.out ▸ hv14; have hxr := hx06.trans (hx7.trans (hx8.trans (hx9.trans ((ext_alloc _ _).trans (hx10.trans (hx11.trans (hx12.trans ((ext_alloc _ _).trans (hx13.trans hx14))))))))))
        | (go_at_call 26; with_reducible refine (hM _ v14 v14 r r hvr hvr).mono ?_; rintro e w20 ⟨v20, rfl, hv20, hx20⟩)
        | (go_at_call 36; with_reducible refine (cmp_num _ v20 va _ x hv20 (ha.ext (hxr.trans hx20))).mono ?_; rintro e w21 ⟨c21, rfl, -, hc21, hx21⟩; have hc22 := hc21 hk.out; clear hc21))
      all_goals
        go_ret2
        exact ⟨_, rfl, fun h => absurd h hk.out, hxr.trans (hx20.trans hx21)⟩
theorem bytes_num (w : World) (v : Value) (x : Nat) (h : Num w v x 11) :
    Calls Try.prog 17 #[v] w fun e w' => e = .returned (.agg (bcells (nb x))) ∧ Ext w w' := by
  obtain ⟨A, n, c, l, rfl, hn, hc, hr, hcan, rfl, hl⟩ := h
  exact bytes_any A n c l w hn hcan.1 hr (by omega)

end Go.Proofs.Ytndohjgfjbopnaa
end
