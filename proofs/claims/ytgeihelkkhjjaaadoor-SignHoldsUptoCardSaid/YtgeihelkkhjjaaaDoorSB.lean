import Derived.Test.YtgeihelkkhjjaaaDoorSA
import Derived.Deep.RegionLaw
section
/-
  Numbers in words of 64 bits: rest walked.
-/
set_option linter.unusedSimpArgs false
set_option linter.unusedVariables false
namespace Go.Proofs.YtgeihelkkhjjaaaDoor
open Go.RowKit Go.Cv
theorem order_any (w : World) : Calls Tryd.prog 43 #[] w fun e w' => e = .returned (.agg (w4 (Lw 0) (Lw 1) (Lw 2) (Lw 3))) ∧ Ext w w' := by
  go_enter Tryd.func43, Tryd.ntmps43
  go_wp2
  refine bodyPost_ret_by (by simp [results, Tryd.results43, go_sem]; rfl) rfl ?_
  exact ⟨rfl, ext_alloc _ _⟩
set_option maxRecDepth 20000 in
set_option maxHeartbeats 4000000 in
theorem rest_any (A : Option Addr) (m c : Nat) (ws : List UInt64) (w : World) (hws : ws.length = m) (hr : Rd w A (ws.map wq)) (bnd : m ≤ 16) :
    Calls Tryd.prog 31 #[.slice A m c] w fun e w' => e = .returned (.agg (bcells (nb (wsum ws % ordN)))) ∧ Ext w w' := by
  have HW := Lib.hid hws
  clear hws
  obtain ⟨N, hN⟩ : ∃ N, N = wsum ws := ⟨_, rfl⟩
  have hNx := Lib.hid hN
  rw [← hN]
  have hN0 : N / 2 ^ (64 * m) = 0 := Nat.div_eq_of_lt (by rw [hN, ← HW.out]; exact wsum_lt ws)
  clear hN
  go_enter Tryd.func31, Tryd.ntmps31
  go_upto_region 1 with fail
  obtain ⟨W0, hW0⟩ : ∃ W0, W0 = w.alloc (.cells (bcells fun _ => 0) 22) := ⟨_, rfl⟩
  obtain ⟨br, hbr⟩ : ∃ b, b = w.heap.size := ⟨_, rfl⟩
  rw [← hW0, ← hbr]
  have hx0 : Ext w W0 := by rw [hW0]; exact ext_alloc _ _
  have hRr : RV W0 br 22 (fun u => u = .agg (bcells fun _ => 0)) := ⟨(bcells fun _ => 0).toList, by rw [hW0, hbr]; have := Row.alloc w (bcells fun _ => 0).toList 22; rwa [Array.toArray_toList] at this, by rw [Array.toArray_toList]⟩
  have hbw : w.heap.size ≤ br := by omega
  clear hW0 hbr
  go_upto_region 4 with (go_at_call 43; with_reducible refine (order_any W0).mono ?_; rintro e w1 ⟨rfl, hx1⟩)
  obtain ⟨W1, hW1⟩ : ∃ W1, W1 = w1.alloc (.cells (w4 (Lw 0) (Lw 1) (Lw 2) (Lw 3)) 77) := ⟨_, rfl⟩
  obtain ⟨bl, hbl⟩ : ∃ b, b = w1.heap.size := ⟨_, rfl⟩
  rw [← hW1, ← hbl]
  obtain ⟨W, hW⟩ : ∃ W, W = W1.alloc (.cells #[.int .u64 0, .int .u64 0, .int .u64 0, .int .u64 0] 77) := ⟨_, rfl⟩
  have hs1 : W1.heap.size = bl + 1 := by rw [hW1, hbl]; exact Array.size_push _
  obtain ⟨b4, hb4⟩ : ∃ b, b = bl + 1 := ⟨_, rfl⟩
  rw [← hW, ← hb4]
  rw [← hb4] at hs1
  have hx2 : Ext w1 W1 := by rw [hW1]; exact ext_alloc _ _
  have hx3 : Ext W1 W := by rw [hW]; exact ext_alloc _ _
  have hRl : Row W bl 77 (rw4 Lw) := by
    refine Row.ext ?_ hx3
    rw [hW1, hbl]; exact Row.alloc w1 (rw4 Lw) _
  have hR4 : Row W b4 77 (rw4 fun _ => 0) := by rw [hW, ← hs1]; exact Row.alloc W1 (rw4 fun _ => 0) _
  have hx : Ext w W := hx0.trans (hx1.trans (hx2.trans hx3))
  have hbl0 : br < bl := by have := hRr.lt; have h := hx1.size; omega
  have hb4w : w.heap.size ≤ b4 := by omega
  have n1 : br ≠ b4 := by omega
  have n2 : bl ≠ b4 := by omega
  replace hRr := ((hRr.ext hx1).ext hx2).ext hx3
  clear hW hW1 hbl hs1 hb4 hx0 hx1 hx2 hx3
  go_loopw [5] (fun v5 wr => ∃ (k : Nat) (x : Int) (a : Nat → UInt64), k ≤ 64 * m ∧ v5 = .int .i64 x ∧ Hid (x + 1 = (k : Int)) ∧ Row wr b4 77 (rw4 a) ∧ Hid (v4 a = N / 2 ^ k % ordN) ∧ Keep [b4] W wr) (fun v5 _ => (intOf v5 + 1).toNat)
  case atStart => exact ⟨64 * m, _, fun _ => 0, Nat.le_refl _, rfl, Lib.hid (by push_cast; omega), hR4, Lib.hid (by rw [hN0]; rfl), Keep.refl _ _⟩
  case round =>
    clear hR4 hN0
    obtain ⟨k, x, a, hk, rfl, hxk, hR, hv, hK⟩ := hrel
    have hxw : Ext w wr := Ext.keep_ hx hK (by simpa using hb4w)
    have hRl2 := hRl.keep hK (by simpa using n2)
    have hRr2 := hRr.keep hK (by simpa using n1)
    have hxk' := hxk.out
    by_cases hx0 : 0 ≤ x
    · obtain ⟨i, rfl⟩ : ∃ i : Nat, x = (i : Int) := ⟨x.toNat, by omega⟩
      have hki : k = i + 1 := by omega
      obtain ⟨q, hq⟩ : ∃ q, q = i / 64 := ⟨_, rfl⟩
      obtain ⟨t, ht⟩ : ∃ t, t = i % 64 := ⟨_, rfl⟩
      have hqm : q < m := by omega
      have hqmI : (q : Int) < (m : Int) := by omega
      have hq0 : 0 ≤ (q : Int) := by omega
      have ht0 : 0 ≤ (t : Int) := by omega
      have ht64 : t < 64 := by omega
      have ht64I : (t : Int) < 64 := by omega
      have d1 : (i : Int) / 64 = (q : Int) := by omega
      have d2 : (i : Int).tdiv 64 = (q : Int) := by rw [Int.tdiv_eq_ediv_of_nonneg (by omega)]; omega
      have r1 : (i : Int) % 64 = (t : Int) := by omega
      have r2 : (i : Int).tmod 64 = (t : Int) := by rw [Int.tmod_eq_emod_of_nonneg (by omega)]; omega
      have hqw : q < ws.length := by rw [HW.out]; exact hqm
      obtain ⟨ad, rfl, hcell⟩ := (hr.ext hxw).at_ (k := q) (by rw [List.length_map]; exact hqw)
      rw [List.getElem_map] at hcell
      have hgd : ws.getD q 0 = ws[q]'hqw := by simp [List.getD, List.getElem?_eq_getElem hqw]
      have hbit : N / 2 ^ i % 2 = (ws[q]'hqw).toNat / 2 ^ t % 2 := by
        rw [hNx.out, ← hgd, ← wsum_bit ws q t ht64]
        congr 3
        omega
      generalize ws[q]'hqw = y at *
      have hcell2 : wr.cell? (ad.add q) = some (.int .u64 (n64 y)) := hcell
      have hsh := shr_q y t ht64
      obtain ⟨B, hB⟩ : ∃ B, B = (y >>> UInt64.ofNat t &&& 1) := ⟨_, rfl⟩
      have hB1 : B.toNat = N / 2 ^ i % 2 := by rw [hB, bit_q y t ht64, hbit]
      have hBle : B.toNat ≤ 1 := by omega
      have hvn : v4 (shn a B) = 2 * v4 a + B.toNat := shn_val a B hBle (by
        rw [hv.out]
        have h9 : N / 2 ^ k % ordN < ordN := Nat.mod_lt _ (by decide)
        have h8 : ordN < 2 ^ 255 := by decide
        omega)
      have hfin : v4 (if lsb (shn a B) 4 then shn a B else lsn (shn a B)) = N / 2 ^ i % ordN := by
        rw [rest_step (N := N / 2 ^ k) (r := 0) hv.out hBle hvn, hB1, hki, ← shift_step]
      have hfx := Lib.hid hfin
      have hBx := Lib.hid hB
      have hi64 : i < 1024 := by omega
      have hx4 : Hid ((i : Int) - 1 + 1 = (i : Int)) := Lib.hid (by omega)
      have hil : i ≤ 64 * m := by omega
      have hv1 : IntKind.i64.wrap ((i : Int) - 1) = (i : Int) - 1 := IntWalk.i64_in _ (by omega)
      clear hvn hfin hB hbit hgd hv hq ht hki hxk' hB1 hcell
      obtain ⟨W2, hW2⟩ : ∃ W2, W2 = wr := ⟨_, rfl⟩
      subst hW2
      go_upto_region 8 with fail
      rw [← hBx.out]
      go_loopw [31, 6] (fun v31 v6 wr => ∃ j : Nat, j ≤ 4 ∧ v31 = .int .i64 j ∧ v6 = .int .u64 (n64 (shc a B j)) ∧ Row wr b4 77 (rw4 (mixw j (shn a B) a)) ∧ Keep [b4] W2 wr) (fun v31 _ _ => 4 - (intOf v31).toNat)
      case atStart => exact ⟨0, by decide, rfl, rfl, by rw [mix_zero]; exact hR, Keep.refl _ _⟩
      case round =>
        clear hR
        obtain ⟨j, hj, rfl, rfl, hR, hKj⟩ := hrel
        by_cases hj4 : j < 4
        · have hj4I : (j : Int) < 4 := by omega
          have hj0 : 0 ≤ (j : Int) := by omega
          have cj : wr.cell? ⟨b4, j, none⟩ = some (.int .u64 (n64 (a j))) := by
            rw [hR.q hj4, mix_at]
          have fj := hR.fro j
          have hR2 := hR.set j (.int .u64 (n64 (a j <<< 1 ||| shc a B j)))
          have hset : (rw4 (mixw j (shn a B) a)).set j (.int .u64 (n64 (a j <<< 1 ||| shc a B j))) = rw4 (mixw (j + 1) (shn a B) a) := rw4_set (shn a B) a hj4
          rw [hset] at hR2
          have hK2 := hKj.same (Keep.setCell wr ⟨b4, j, none⟩ (.int .u64 (n64 (a j <<< 1 ||| shc a B j))))
          have hms : 4 - (j + 1) < 4 - j := by omega
          clear hset hR hKj
          go_upto_region 10 with fail
          go_region
          all_goals
            go_wp2
            exact ⟨⟨j + 1, hj4, by go_num, rfl, hR2, ⟨hK2.os, hK2.tape, hK2.output, hK2.size, hK2.keep⟩⟩, by simpa [intOf] using hms⟩
        · obtain rfl : j = 4 := by omega
          rw [rw4_mix4] at hR
          obtain ⟨n, hn⟩ : ∃ n, n = shn a B := ⟨_, rfl⟩
          rw [← hn] at hR hfx
          clear hn
          have g0 := hR.q (k := 0) (by decide)
          have g1 := hR.q (k := 1) (by decide)
          have g2 := hR.q (k := 2) (by decide)
          have g3 := hR.q (k := 3) (by decide)
          go_upto_region 14 with fail
          obtain ⟨W3, hW3⟩ : ∃ W3, W3 = wr.alloc (.cells #[.int .u64 (n64 (n 0)), .int .u64 (n64 (n 1)), .int .u64 (n64 (n 2)), .int .u64 (n64 (n 3))] 77) := ⟨_, rfl⟩
          obtain ⟨b8, hb8⟩ : ∃ b, b = wr.heap.size := ⟨_, rfl⟩
          rw [← hW3, ← hb8]
          have hx3 : Ext wr W3 := by rw [hW3]; exact ext_alloc _ _
          have hR8 : Row W3 b8 77 (rw4 n) := by rw [hW3, hb8]; exact Row.alloc wr (rw4 n) _
          have hK3 : Keep [b4] W W3 := (hK.same hKj).ext hx3
          have n84 : b4 ≠ b8 := by have := hR.lt; omega
          have n8l : bl ≠ b8 := by have := hRl2.lt; have := hKj.size; omega
          have n8w : W.heap.size ≤ b8 := by have := hK.size; have := hKj.size; omega
          have hR43 := hR.ext hx3
          have hRl3 := hRl.keep hK3 (by simpa using n2)
          clear hW3 hb8 g0 g1 g2 g3 hR hx3
          go_loopw [48, 9] (fun v48 v9 wr => ∃ j : Nat, j ≤ 4 ∧ v48 = .int .i64 j ∧ v9 = .int .u64 (n64 (bc (lsb n j))) ∧ Row wr b8 77 (rw4 (mixw j (lsn n) n)) ∧ Keep [b8] W3 wr) (fun v48 _ _ => 4 - (intOf v48).toNat)
          case atStart => exact ⟨0, by decide, rfl, rfl, by rw [mix_zero]; exact hR8, Keep.refl _ _⟩
          case round =>
            clear hR8
            obtain ⟨j, hj, rfl, rfl, hR8, hK8⟩ := hrel
            have hR44 := hR43.keep hK8 (by simpa using n84)
            have hRl4 := hRl3.keep hK8 (by simpa using n8l)
            by_cases hj4 : j < 4
            · have hj4I : (j : Int) < 4 := by omega
              have hj0 : 0 ≤ (j : Int) := by omega
              have cj := hR44.q hj4
              have cl := hRl4.q hj4
              have f8 := hR8.fro j
              have c8 : wr.cell? ⟨b8, j, none⟩ = some (.int .u64 (n64 (n j))) := by
                rw [hR8.q hj4, mix_at]
              have hR2 := hR8.set j (.int .u64 (n64 (sbbS (n j) (Lw j) (lsb n j))))
              have hset : (rw4 (mixw j (lsn n) n)).set j (.int .u64 (n64 (sbbS (n j) (Lw j) (lsb n j)))) = rw4 (mixw (j + 1) (lsn n) n) := rw4_set (lsn n) n hj4
              rw [hset] at hR2
              have hK2 := hK8.same (Keep.setCell wr ⟨b8, j, none⟩ (.int .u64 (n64 (sbbS (n j) (Lw j) (lsb n j)))))
              have hms : 4 - (j + 1) < 4 - j := by omega
              clear hset hR8 hK8 hR44 hRl4
              go_upto_region 16 with fail
              go_region_with (simp only [sub64])
              all_goals
                simp only [List.getElem_toArray, List.getElem_cons_zero, List.getElem_cons_succ, Act.put, List.setIfInBounds_toArray, List.set_cons_zero, List.set_cons_succ]
                go_wp2
                go_roundw
                case rel => exact ⟨_, _, _, _, _, _, _, _, _, _, _, _, _, _, _, _, _, _, _, ⟨j + 1, hj4, by go_num, rfl, hR2, ⟨hK2.os, hK2.tape, hK2.output, hK2.size, hK2.keep⟩⟩, rfl⟩
                case measure => simpa [intOf] using hms
            · obtain rfl : j = 4 := by omega
              rw [rw4_mix4] at hR8
              have hK4 : Keep [b4] W wr := hK3.trans hK8 (fun x hx => by rw [List.mem_singleton.1 hx]; exact .inr n8w)
              cases hc : lsb n 4
              · rw [hc] at hfx
                have hf := hfx.out
                rw [if_neg (by simp)] at hf
                have hfy := Lib.hid hf
                have g0 := hR8.q (k := 0) (by decide)
                have g1 := hR8.q (k := 1) (by decide)
                have g2 := hR8.q (k := 2) (by decide)
                have g3 := hR8.q (k := 3) (by decide)
                have k0 := hR44.q (k := 0) (by decide)
                have k1 := hR44.q (k := 1) (by decide)
                have k2 := hR44.q (k := 2) (by decide)
                have k3 := hR44.q (k := 3) (by decide)
                have l0 := hR44.fro 0
                have l1 := hR44.fro 1
                have l2 := hR44.fro 2
                have l3 := hR44.fro 3
                have hRn := hR44.store4 (lsn n)
                have hKn := hK4.same (Keep.store4 wr b4 (.int .u64 (n64 (lsn n 0))) (.int .u64 (n64 (lsn n 1))) (.int .u64 (n64 (lsn n 2))) (.int .u64 (n64 (lsn n 3))))
                have hbc : n64 (bc false) = 0 := rfl
                clear hf hfx hR44 hRl4 hR8 hR43 hRl3 hK8 hK4 hK3
                go_wp2
                exact ⟨⟨i, _, lsn n, hil, rfl, hx4, hRn, hfy, hKn⟩, by simp [intOf]; try omega⟩
              · rw [hc] at hfx
                have hf := hfx.out
                rw [if_pos rfl] at hf
                have hfy := Lib.hid hf
                have hbc : n64 (bc true) = 1 := rfl
                clear hf hfx
                go_wp2
                exact ⟨⟨i, _, n, hil, rfl, hx4, hR44, hfy, hK4⟩, by simp [intOf]; try omega⟩
    · obtain rfl : x = -1 := by omega
      obtain rfl : k = 0 := by omega
      have hv2 := hv.out
      rw [Nat.pow_zero, Nat.div_one] at hv2
      have hvx := Lib.hid hv2
      clear hv hv2 hxk hxk'
      obtain ⟨W2, hW2⟩ : ∃ W2, W2 = wr := ⟨_, rfl⟩
      subst hW2
      go_upto_region 22 with fail
      obtain ⟨W4, hW4⟩ : ∃ W4, W4 = W2.alloc (.cells (bcells fun _ => 0) 22) := ⟨_, rfl⟩
      obtain ⟨bo, hbo⟩ : ∃ b, b = W2.heap.size := ⟨_, rfl⟩
      rw [← hW4, ← hbo]
      have hx4 : Ext W2 W4 := by rw [hW4]; exact ext_alloc _ _
      have hRo : RV W4 bo 22 (fun u => u = .agg (bcells fun _ => 0)) := ⟨(bcells fun _ => 0).toList, by rw [hW4, hbo]; have := Row.alloc W2 (bcells fun _ => 0).toList 22; rwa [Array.toArray_toList] at this, by rw [Array.toArray_toList]⟩
      have n4o : b4 ≠ bo := by have := hR.lt; omega
      have nro : br ≠ bo := by have := hRr2.lt; omega
      have hR4 := hR.ext hx4
      have hRr4 := hRr2.ext hx4
      have hxw4 : Ext w W4 := hxw.trans hx4
      have hbow : w.heap.size ≤ bo := by have := hxw.size; omega
      clear hW4 hbo hRl2 hRr2 hR hx4
      go_loopw [68] (fun v68 wr => ∃ (j : Nat) (g : Nat → UInt8), j ≤ 32 ∧ v68 = .int .i64 j ∧ RV wr bo 22 (fun u => u = .agg (bcells g)) ∧ Hid (∀ k, k < j → g k = nb (v4 a) k) ∧ Keep [bo] W4 wr) (fun v68 _ => 32 - (intOf v68).toNat)
      case atStart => exact ⟨0, _, by decide, rfl, hRo, Lib.hid (fun _ h => absurd h (by omega)), Keep.refl _ _⟩
      case round =>
        clear hRo
        obtain ⟨j, g, hj, rfl, hRo, hg, hKo⟩ := hrel
        have hR5 := hR4.keep hKo (by simpa using n4o)
        by_cases hj4 : j < 32
        · have hj4I : (j : Int) < 32 := by omega
          have hj0 : 0 ≤ (j : Int) := by omega
          obtain ⟨q, hq⟩ : ∃ q, q = j / 8 := ⟨_, rfl⟩
          obtain ⟨t, ht⟩ : ∃ t, t = j % 8 := ⟨_, rfl⟩
          have hq4 : q < 4 := by omega
          have hq4I : (q : Int) < 4 := by omega
          have hq0 : 0 ≤ (q : Int) := by omega
          have d1 : (j : Int) / 8 = (q : Int) := by omega
          have d2 : (j : Int).tdiv 8 = (q : Int) := by rw [Int.tdiv_eq_ediv_of_nonneg (by omega)]; omega
          have r1 : (j : Int) % 8 = (t : Int) := by omega
          have r2 : (j : Int).tmod 8 = (t : Int) := by rw [Int.tmod_eq_emod_of_nonneg (by omega)]; omega
          obtain ⟨e, he⟩ : ∃ e, e = 8 * t := ⟨_, rfl⟩
          have e1 : 8 * (t : Int) = (e : Int) := by omega
          have e2 : 0 ≤ (e : Int) := by omega
          have e3 : (e : Int) < 64 := by omega
          have e4 : e < 64 := by omega
          have cq := hR5.q hq4
          have hsh := shr_q (a q) e e4
          have cb := hRo.byte hj4
          have fb := hRo.fro j
          have hby : (a q >>> UInt64.ofNat e).toUInt8 = nb (v4 a) j := byte_q a hj4 hq ht he
          have hR2 := hRo.set j (a q >>> UInt64.ofNat e).toUInt8
          have hK2 := hKo.same (Keep.setCell wr ⟨bo, j, none⟩ (.int .u8 (n8 (a q >>> UInt64.ofNat e).toUInt8)))
          have hg2 : Hid (∀ k, k < j + 1 → updb g j (a q >>> UInt64.ofNat e).toUInt8 k = nb (v4 a) k) := Lib.hid (fun k hk => by
            by_cases hkj : k = j
            · subst hkj
              rw [show updb g k (a q >>> UInt64.ofNat e).toUInt8 k = (a q >>> UInt64.ofNat e).toUInt8 from if_pos rfl]
              exact hby
            · rw [show updb g j (a q >>> UInt64.ofNat e).toUInt8 k = g k from if_neg hkj]
              exact hg.out k (by omega))
          have hms : 32 - (j + 1) < 32 - j := by omega
          clear hby hg hRo hKo he hq ht
          go_wp2
          exact ⟨⟨j + 1, _, hj4, by go_num, hR2, hg2, hK2⟩, by simpa [intOf] using hms⟩
        · obtain rfl : j = 32 := by omega
          have hRr5 := hRr4.keep hKo (by simpa using nro)
          have hxe : Ext w wr := Ext.keep_ hxw4 hKo (by simpa using hbow)
          have hgg : bcells g = bcells (nb (N % ordN)) := by
            rw [← hvx.out]
            exact bcells_congr hg.out
          rw [hgg] at hRo
          clear hgg
          have o1 := hRo.opt
          have o2 := hRr5.opt
          obtain ⟨cr, hr1, hr2⟩ := hRr5
          go_wp2
          exact bodyPost_ret (results_cell_row (p := 2) (ty := 22) rfl _ _ br 22 _ (0, 0) _ rfl (setRow_heap wr br _ _ 22 (0, 0) hr1) Go.Proofs.YtgeihelkkhjjaaaDoor.u22 rfl (by rw [bcells_size]; exact i22)) rfl ⟨rfl, Ext.keep_ (ns := [br]) hxe ⟨rfl, rfl, rfl, by simp [World.setRow], fun k _ hk => setRow_other wr br k _ (by simpa using hk)⟩ (by simpa using hbw)⟩
end Go.Proofs.YtgeihelkkhjjaaaDoor
end
section
/-
  Numbers modulo the order: Scalar, Low walked.
-/
set_option linter.unusedSimpArgs false
set_option linter.unusedVariables false
namespace Go.Cv
open Go.RowKit
theorem bsum_congr {f g : Nat → UInt8} : ∀ (n : Nat), (∀ j, j < n → f j = g j) → bsum f n = bsum g n
  | 0, _ => rfl
  | n + 1, h => by
    simp only [bsum]
    rw [bsum_congr n fun j hj => h j (by omega), h n (by omega)]
theorem bsum_blist (f : Nat → UInt8) : bsum (fun j => (blist f).getD j 0) 32 = V f := bsum_congr 32 fun j hj => by
  simp [blist, List.getD, hj]
theorem rd_bcells {w : World} {b : Nat} {T : TypeId} {f : Nat → UInt8} (h : RV w b T (fun u => u = .agg (bcells f))) : Rd w (some ⟨b, 0, none⟩) ((blist f).map bv) := by
  obtain ⟨cs, h1, h2⟩ := h
  have h3 := bL_of h2
  subst h3
  intro k v hv
  refine ⟨_, rfl, ?_⟩
  have e : (bcells f).toList = (blist f).map bv := by
    rw [bcells_list]
    rfl
  rw [show (Addr.add ⟨b, 0, none⟩ k) = ⟨b, k, none⟩ from by unfold Addr.add; split <;> simp_all]
  rw [← e] at hv
  obtain ⟨hlt, he⟩ := List.getElem?_eq_some_iff.1 hv
  rw [h1.cell hlt, he]
theorem row_rd {w : World} {b : Nat} {T : TypeId} {xs : List Value} (h : Row w b T xs) : Rd w (some ⟨b, 0, none⟩) xs := by
  intro k v hv
  refine ⟨_, rfl, ?_⟩
  rw [show (Addr.add ⟨b, 0, none⟩ k) = ⟨b, k, none⟩ from by unfold Addr.add; split <;> simp_all]
  obtain ⟨hlt, he⟩ := List.getElem?_eq_some_iff.1 hv
  rw [h.cell hlt, he]
theorem RV.newB (w : World) (f : Nat → UInt8) (T : TypeId) : RV (w.alloc (.cells (bcells f) T)) w.heap.size T (fun u => u = .agg (bcells f)) :=
  ⟨(bcells f).toList, by have := Row.alloc w (bcells f).toList T; rwa [Array.toArray_toList] at this, by rw [Array.toArray_toList]⟩
end Go.Cv
namespace Go.Proofs.YtgeihelkkhjjaaaDoor
open Go.RowKit Go.Cv
set_option maxRecDepth 20000 in
set_option maxHeartbeats 4000000 in
theorem scalar_ok (A : Option Addr) (n c : Nat) (l : List UInt8) (w : World) (hl : l.length = n) (hr : Rd w A (l.map bv)) (bnd : n ≤ 64) :
    Calls Tryd.prog 24 #[.slice A n c] w fun e w' => e = .returned (.tuple #[.agg (bcells (nb (bsum (fun j => l.getD j 0) n % ordN))), .nilIface]) ∧ Ext w w' := by
  have hI : ¬ (64 : Int) < (n : Int) := by omega
  obtain ⟨N, hN⟩ : ∃ N, N = bsum (fun j => l.getD j 0) n := ⟨_, rfl⟩
  rw [← hN]
  have hNx := Lib.hid hN
  have HL := Lib.hid hl
  clear hN hl
  go_enter Tryd.func24, Tryd.ntmps24
  go_upto_region 3 with fail
  obtain ⟨W0, hW0⟩ : ∃ W0, W0 = w.alloc (.cells (bcells fun _ => 0) 22) := ⟨_, rfl⟩
  obtain ⟨br, hbr⟩ : ∃ b, b = w.heap.size := ⟨_, rfl⟩
  rw [← hW0, ← hbr]
  have hx0 : Ext w W0 := by rw [hW0]; exact ext_alloc _ _
  have hRr : RV W0 br 22 (fun u => u = .agg (bcells fun _ => 0)) := by rw [hW0, hbr]; exact RV.newB _ _ _
  have hbw : w.heap.size ≤ br := by omega
  have hr0 := hr.ext hx0
  clear hW0 hbr hr
  go_wp2_with (first
    | (go_at_call 28; (with_reducible refine (split_any A n c l W0 HL.out hr0 bnd).mono ?_); rintro e w1 ⟨m, b, ws, rfl, hm, hb, hrow, hlen, hsum, hx1⟩; have hm8 : m ≤ 8 := (by omega); replace hm := Lib.hid hm)
    | (go_at_call 31; ((with_reducible refine (rest_any _ m m ws w1 hlen (row_rd hrow) (by omega)).mono ?_); rintro e w2 ⟨rfl, hx2⟩; rw [hsum, ← hNx.out]; have o2 := ((hRr.ext hx1).ext hx2).opt)))
  obtain ⟨cr, hr1, hr2⟩ := ((hRr.ext hx1).ext hx2)
  have hrow2 := setRow_heap w2 br _ (bcells (nb (N % ordN))) 22 (0, 0) hr1
  refine bodyPost_ret (results_B2 rfl _ (n := br) (f := nb (N % ordN)) ⟨_, by unfold Row; rw [Array.toArray_toList]; exact hrow2, by rw [Array.toArray_toList]⟩ rfl) rfl ?_
  exact ⟨rfl, Ext.keep_ (ns := [br]) (hx0.trans (hx1.trans hx2)) ⟨rfl, rfl, rfl, by simp [World.setRow], fun k _ hk => setRow_other w2 br k _ (by simpa using hk)⟩ (by simpa using hbw)⟩
set_option maxRecDepth 20000 in
set_option maxHeartbeats 4000000 in
theorem low_any (f : Nat → UInt8) (w : World) :
    Calls Tryd.prog 18 #[.agg (bcells f)] w fun e w' => e = .returned (.bool (beqb (nb (V f % ordN)) f)) ∧ Ext w w' := by
  obtain ⟨N, hN⟩ : ∃ N, N = V f := ⟨_, rfl⟩
  rw [← hN]
  have hNx := Lib.hid hN
  clear hN
  go_enter Tryd.func18, Tryd.ntmps18
  go_upto_region 1 with fail
  obtain ⟨W0, hW0⟩ : ∃ W0, W0 = w.alloc (.cells (bcells f) 22) := ⟨_, rfl⟩
  obtain ⟨b, hb⟩ : ∃ b, b = w.heap.size := ⟨_, rfl⟩
  rw [← hW0, ← hb]
  have hx0 : Ext w W0 := by rw [hW0]; exact ext_alloc _ _
  have hR : RV W0 b 22 (fun u => u = .agg (bcells f)) := by rw [hW0, hb]; exact RV.newB _ _ _
  clear hW0 hb
  have hR' : RV W0.drew b 22 (fun u => u = .agg (bcells f)) := hR
  have o0 := hR.opt
  go_region_law (first
    | (go_simp; go_at_call 28; (with_reducible refine (split_any _ 32 32 (blist f) W0.drew (blist_len f) (rd_bcells hR') (by decide)).mono ?_); rintro e w1 ⟨m, b1, ws, rfl, hm, hb1, hrow, hlen, hsum, hx1⟩; have hm8 : m ≤ 8 := (by omega); replace hm := Lib.hid hm; have o1 := (hR'.ext hx1).opt)
    | (go_simp; go_at_call 31; (with_reducible refine (rest_any _ m m ws w1 hlen (row_rd hrow) (by omega)).mono ?_); rintro e w2 ⟨rfl, hx2⟩; rw [hsum, bsum_blist, ← hNx.out]; have o2 := ((hR'.ext hx1).ext hx2).opt))
  all_goals
    go_wp2
    go_ret
    exact ⟨rfl, hx0.trans ((ext_drew _).trans (hx1.trans hx2))⟩
end Go.Proofs.YtgeihelkkhjjaaaDoor
end
