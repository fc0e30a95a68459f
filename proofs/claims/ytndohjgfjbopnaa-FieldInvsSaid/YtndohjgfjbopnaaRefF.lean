/-
  Walks of the document's answer: bytes as a number.
-/
import Derived.Test.YtndohjgfjbopnaaRefE
set_option linter.unusedSimpArgs false
set_option linter.unusedVariables false
namespace Go.Cv.Dig
open Go.RowKit
/-- A byte of a list, 0 behind its end. -/
def lb (l : List UInt8) (j : Nat) : UInt8 := l.getD j 0
theorem lb_lt {l : List UInt8} {j : Nat} (h : j < l.length) : lb l j = l[j] := by simp [lb, List.getD, List.getElem?_eq_getElem h]
theorem lb_ge {l : List UInt8} {j : Nat} (h : l.length ≤ j) : lb l j = 0 := by simp [lb, List.getD, List.getElem?_eq_none h]
/-- Three bytes as a digit. -/
def d3 (g : Nat → UInt8) (i : Nat) : Nat := (g i).toNat + 256 * ((g (i + 1)).toNat + 256 * (g (i + 2)).toNat)
theorem d3_lt (g : Nat → UInt8) (i : Nat) : d3 g i < 16777216 := by
  have := (g i).toNat_lt; have := (g (i + 1)).toNat_lt; have := (g (i + 2)).toNat_lt
  unfold d3; omega
structure OfInv (g : Nat → UInt8) (ds : List Nat) (i : Nat) : Prop where
  len : 3 * ds.length = i
  small : Small ds
  val : dval ds = bsum g i
theorem OfInv.start (g : Nat → UInt8) : OfInv g [] 0 := ⟨rfl, Small.nil_, rfl⟩
theorem OfInv.step {g : Nat → UInt8} {ds : List Nat} {i : Nat} (h : OfInv g ds i) : OfInv g (ds ++ [d3 g i]) (i + 3) := by
  refine ⟨by simp; have := h.len; omega, h.small.snoc (d3_lt g i), ?_⟩
  rw [dval_snoc, h.val]
  simp only [bsum]
  have e : (16777216 : Nat) ^ ds.length = 2 ^ (8 * i) := by
    rw [show (16777216 : Nat) = 2 ^ 24 from rfl, ← Nat.pow_mul, ← h.len]
    congr 1
    omega
  rw [e, show 8 * (i + 2) = 8 * i + 16 from by omega, show 8 * (i + 1) = 8 * i + 8 from by omega, Nat.pow_add, Nat.pow_add]
  unfold d3
  generalize 2 ^ (8 * i) = P
  rw [Nat.mul_add, Nat.mul_left_comm P 256, Nat.mul_add P, Nat.mul_add 256, Nat.mul_left_comm P 256]
  rw [Nat.mul_assoc, Nat.mul_assoc, Nat.mul_left_comm P (2 ^ 8), Nat.mul_left_comm P (2 ^ 16)]
  omega
theorem bsum_more {g : Nat → UInt8} {n : Nat} : ∀ k, (∀ j, n ≤ j → g j = 0) → bsum g (n + k) = bsum g n
  | 0, _ => rfl
  | k + 1, h => by
    show bsum g (n + k) + 2 ^ (8 * (n + k)) * (g (n + k)).toNat = _
    rw [bsum_more k h, h (n + k) (by omega)]
    simp
end Go.Cv.Dig
namespace Go.Proofs.Ytndohjgfjbopnaa
open Go.RowKit Go.Cv Go.Cv.Dig

theorem cell_struct {w : World} {ad : Addr} {k : Nat} {v : Value} (h : w.cell? (ad.add (k + 1)) = some v) : w.cell? ⟨ad.block, ad.off + (k + 1), none⟩ = some v := h

set_option maxRecDepth 4000 in
set_option maxHeartbeats 4000000 in
theorem of_any (A : Option Addr) (n c1 : Nat) (l : List UInt8) (w0 : World) (hn : l.length = n) (hr : Rd w0 A (l.map bv)) (hb : n ≤ 1000000) :
    Calls Try.prog 37 #[.slice A n c1] w0 fun e w' => ∃ v, e = .returned v ∧ Num w' v (bsum (lb l) n) (n + 2) ∧ Ext w0 w' := by
  have HN := Lib.hid hn
  clear hn
  go_enter Try.func37, Try.ntmps37
  go_wp2
  go_loopw [3, 4, 5, 6] (fun v t4 _ _ wr => ∃ (i q : Nat) (ds : List Nat), t4 = .int .i64 i ∧ wr.ownsRow w0.heap.size 3 1 v q (ds.map iv) ∧ Ext w0 wr ∧ Hid (OfInv (lb l) ds i) ∧ i ≤ n + 2 ∧ 3 * q = i) (fun _ t4 _ _ _ => n + 3 - (intOf t4).toNat)
  case atStart => exact ⟨0, 0, [], rfl, World.ownsRow_nil w0 _ _ 1, Ext.refl _, Lib.hid (OfInv.start _), by omega, rfl⟩
  case round =>
    rename_i wr
    obtain ⟨i, q, ds, rfl, ho, hE, HP, hi, hq⟩ := hrel
    obtain ⟨C, cc, rfl, hnc, hcm, hrd, hlen⟩ := own_form ho
    by_cases hlt : i < n
    · have g0 := (lb l i).toNat_lt
      have g1 := (lb l (i + 1)).toNat_lt
      have g2 := (lb l (i + 2)).toNat_lt
      obtain ⟨ad, rfl, hc0⟩ := (hr.ext hE).at_ (k := i) (by rw [List.length_map, HN.out]; exact hlt)
      rw [List.getElem_map, ← lb_lt] at hc0
      have HS : d3 (lb l) i = (lb l i).toNat + 256 * ((lb l (i + 1)).toNat + 256 * (lb l (i + 2)).toNat) := rfl
      replace hc0 : wr.cell? (ad.add i) = some (.int .u8 ((lb l i).toNat : Int)) := hc0
      by_cases h2 : i + 2 < n
      · obtain ⟨ad2, ha2, hc2⟩ := (hr.ext hE).at_ (k := i + 2) (by rw [List.length_map, HN.out]; exact h2)
        obtain ⟨ad1, ha1, hc1⟩ := (hr.ext hE).at_ (k := i + 1) (by rw [List.length_map, HN.out]; omega)
        cases ha2
        cases ha1
        rw [List.getElem_map, ← lb_lt] at hc1 hc2
        replace hc1 := cell_struct hc1
        replace hc2 := cell_struct hc2
        replace hc1 : wr.cell? ⟨ad.block, ad.off + (i + 1), none⟩ = some (.int .u8 ((lb l (i + 1)).toNat : Int)) := hc1
        replace hc2 : wr.cell? ⟨ad.block, ad.off + (i + 2), none⟩ = some (.int .u8 ((lb l (i + 2)).toNat : Int)) := hc2
        generalize (lb l i).toNat = b0 at *
        generalize (lb l (i + 1)).toNat = b1 at *
        generalize (lb l (i + 2)).toNat = b2 at *
        replace HS : d3 (lb l) i = 256 * (256 * b2 + b1) + b0 := by omega
        have HT : Hid (OfInv (lb l) (ds ++ [256 * (256 * b2 + b1) + b0]) (i + 3)) := Lib.hid (HS ▸ HP.out.step)
        clear HS
        go_wp2
        refine wp_loop_rounds 4 ?_
        rw [rounds_succ]
        go_wp2
        rw [rounds_succ]
        go_wp2
        rw [rounds_succ]
        go_wp2
        rw [rounds_succ]
        go_wp2_with (at_builtin; refine wpList_app rfl (.tmp 34) (.tmp 36) 28 3 8 rfl introw w0.heap.size _ q _ rfl (own_ext ho (ext_alloc _ _)) _ 1 1 [iv (256 * (256 * b2 + b1) + b0)] rfl rfl (rd_new_one _ _ _) (one_map_iv [_]) (by simp [maxLen]; omega) (by omega) (hE.trans (ext_alloc _ _)).size ?_; intro A2 c2' w2 ho2 hc2' hm2 hr2' hE2 hg2; have hEn := hE2 w0 (hE.trans (ext_alloc _ _)) (Nat.le_refl _); clear hE2 hg2 hr2')
        refine ⟨⟨i + 3, q + 1, ds ++ [256 * (256 * b2 + b1) + b0], by go_num, by rw [List.map_append]; exact ho2, hEn, HT, by omega, by omega⟩, by simp [intOf]; omega⟩
      · rw [lb_ge (l := l) (j := i + 2) (by rw [HN.out]; omega)] at HS
        by_cases h1 : i + 1 < n
        · obtain ⟨ad1, ha1, hc1⟩ := (hr.ext hE).at_ (k := i + 1) (by rw [List.length_map, HN.out]; omega)
          cases ha1
          rw [List.getElem_map, ← lb_lt] at hc1
          replace hc1 := cell_struct hc1
          replace hc1 : wr.cell? ⟨ad.block, ad.off + (i + 1), none⟩ = some (.int .u8 ((lb l (i + 1)).toNat : Int)) := hc1
          generalize (lb l i).toNat = b0 at *
          generalize (lb l (i + 1)).toNat = b1 at *
          replace HS : d3 (lb l) i = 256 * b1 + b0 := by rw [HS]; simp; omega
          have HT : Hid (OfInv (lb l) (ds ++ [256 * b1 + b0]) (i + 3)) := Lib.hid (HS ▸ HP.out.step)
          clear HS
          go_wp2
          refine wp_loop_rounds 4 ?_
          rw [rounds_succ]
          go_wp2
          rw [rounds_succ]
          go_wp2
          rw [rounds_succ]
          go_wp2
          rw [rounds_succ]
          go_wp2_with (at_builtin; refine wpList_app rfl (.tmp 34) (.tmp 36) 28 3 8 rfl introw w0.heap.size _ q _ rfl (own_ext ho (ext_alloc _ _)) _ 1 1 [iv (256 * b1 + b0)] rfl rfl (rd_new_one _ _ _) (one_map_iv [_]) (by simp [maxLen]; omega) (by omega) (hE.trans (ext_alloc _ _)).size ?_; intro A2 c2' w2 ho2 hc2' hm2 hr2' hE2 hg2; have hEn := hE2 w0 (hE.trans (ext_alloc _ _)) (Nat.le_refl _); clear hE2 hg2 hr2')
          refine ⟨⟨i + 3, q + 1, ds ++ [256 * b1 + b0], by go_num, by rw [List.map_append]; exact ho2, hEn, HT, by omega, by omega⟩, by simp [intOf]; omega⟩
        · rw [lb_ge (l := l) (j := i + 1) (by rw [HN.out]; omega)] at HS
          generalize (lb l i).toNat = b0 at *
          replace HS : d3 (lb l) i = b0 := by rw [HS]; simp
          have HT : Hid (OfInv (lb l) (ds ++ [b0]) (i + 3)) := Lib.hid (HS ▸ HP.out.step)
          clear HS
          go_wp2
          refine wp_loop_rounds 4 ?_
          rw [rounds_succ]
          go_wp2
          rw [rounds_succ]
          go_wp2
          rw [rounds_succ]
          go_wp2
          rw [rounds_succ]
          go_wp2_with (at_builtin; refine wpList_app rfl (.tmp 34) (.tmp 36) 28 3 8 rfl introw w0.heap.size _ q _ rfl (own_ext ho (ext_alloc _ _)) _ 1 1 [iv (b0)] rfl rfl (rd_new_one _ _ _) (one_map_iv [_]) (by simp [maxLen]; omega) (by omega) (hE.trans (ext_alloc _ _)).size ?_; intro A2 c2' w2 ho2 hc2' hm2 hr2' hE2 hg2; have hEn := hE2 w0 (hE.trans (ext_alloc _ _)) (Nat.le_refl _); clear hE2 hg2 hr2')
          refine ⟨⟨i + 3, q + 1, ds ++ [b0], by go_num, by rw [List.map_append]; exact ho2, hEn, HT, by omega, by omega⟩, by simp [intOf]; omega⟩
    · have HV : Hid (dval ds = bsum (lb l) n) := Lib.hid (by
        rw [HP.out.val, show i = n + (i - n) from by omega]
        exact bsum_more _ fun j hj => lb_ge (by rw [HN.out]; exact hj))
      have HQ : Hid (ds.length = q) := Lib.hid (by have := HP.out.len; omega)
      go_wp2_with (go_at_call 80; with_reducible refine (cut_any C q cc ds _ HQ.out HP.out.small hrd (by omega) hnc).mono ?_; rintro e w' ⟨r, rfl, hri, hrv, hrc, rfl⟩)
      go_ret
      exact ⟨_, rfl, Num.mk (by rw [List.length_take, HQ.out, Nat.min_eq_left hri]) (by omega) (by rw [List.map_take]; exact hrd.take r) hrc (by rw [hrv, HV.out]) (by omega), hE⟩
end Go.Proofs.Ytndohjgfjbopnaa
