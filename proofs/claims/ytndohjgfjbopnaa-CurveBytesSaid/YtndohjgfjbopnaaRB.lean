import Derived.Test.YtndohjgfjbopnaaRA
import Derived.Laws.MakeOwn
import Derived.Deep.RegionLaw
section
/-
  Walks of the document's answer: bytes as a number.
-/
set_option linter.unusedSimpArgs false
set_option linter.unusedVariables false
namespace Go.Cv.Dig
open Go.RowKit
/-- A byte of a list, 0 behind its end. -/
def lb (l : List UInt8) (j : Nat) : UInt8 := l.getD j 0
theorem lb_lt {l : List UInt8} {j : Nat} (h : j < l.length) : lb l j = l[j] := by simp [lb, List.getD, List.getElem?_eq_getElem h]
theorem lb_ge {l : List UInt8} {j : Nat} (h : l.length ≤ j) : lb l j = 0 := by simp [lb, List.getD, List.getElem?_eq_none h]
/-- Three bytes as a digit. -/
def d3 (g : Nat → UInt8) (i : Nat) : Nat := (g i).toNat + 256 * ((g (i + 1)).toNat + 256 * (g (i + 2)).toNat)
theorem d3_lt (g : Nat → UInt8) (i : Nat) : d3 g i < 16777216 := by
  have := (g i).toNat_lt; have := (g (i + 1)).toNat_lt; have := (g (i + 2)).toNat_lt
  unfold d3; omega
structure OfInv (g : Nat → UInt8) (ds : List Nat) (i : Nat) : Prop where
  len : 3 * ds.length = i
  small : Small ds
  val : dval ds = bsum g i
theorem OfInv.start (g : Nat → UInt8) : OfInv g [] 0 := ⟨rfl, Small.nil_, rfl⟩
theorem OfInv.step {g : Nat → UInt8} {ds : List Nat} {i : Nat} (h : OfInv g ds i) : OfInv g (ds ++ [d3 g i]) (i + 3) := by
  refine ⟨by simp; have := h.len; omega, h.small.snoc (d3_lt g i), ?_⟩
  rw [dval_snoc, h.val]
  simp only [bsum]
  have e : (16777216 : Nat) ^ ds.length = 2 ^ (8 * i) := by
    rw [show (16777216 : Nat) = 2 ^ 24 from rfl, ← Nat.pow_mul, ← h.len]
    congr 1
    omega
  rw [e, show 8 * (i + 2) = 8 * i + 16 from by omega, show 8 * (i + 1) = 8 * i + 8 from by omega, Nat.pow_add, Nat.pow_add]
  unfold d3
  generalize 2 ^ (8 * i) = P
  rw [Nat.mul_add, Nat.mul_left_comm P 256, Nat.mul_add P, Nat.mul_add 256, Nat.mul_left_comm P 256]
  rw [Nat.mul_assoc, Nat.mul_assoc, Nat.mul_left_comm P (2 ^ 8), Nat.mul_left_comm P (2 ^ 16)]
  omega
theorem bsum_more {g : Nat → UInt8} {n : Nat} : ∀ k, (∀ j, n ≤ j → g j = 0) → bsum g (n + k) = bsum g n
  | 0, _ => rfl
  | k + 1, h => by
    show bsum g (n + k) + 2 ^ (8 * (n + k)) * (g (n + k)).toNat = _
    rw [bsum_more k h, h (n + k) (by omega)]
    simp
end Go.Cv.Dig
namespace Go.Proofs.Ytndohjgfjbopnaa
open Go.RowKit Go.Cv Go.Cv.Dig

theorem cell_struct {w : World} {ad : Addr} {k : Nat} {v : Value} (h : w.cell? (ad.add (k + 1)) = some v) : w.cell? ⟨ad.block, ad.off + (k + 1), none⟩ = some v := h

set_option maxRecDepth 4000 in
set_option maxHeartbeats 4000000 in
theorem of_any (A : Option Addr) (n c1 : Nat) (l : List UInt8) (w0 : World) (hn : l.length = n) (hr : Rd w0 A (l.map bv)) (hb : n ≤ 1000000) :
    Calls Try.prog 37 #[.slice A n c1] w0 fun e w' => ∃ v, e = .returned v ∧ Num w' v (bsum (lb l) n) (n + 2) ∧ Ext w0 w' := by
  have HN := Lib.hid hn
  clear hn
  go_enter Try.func37, Try.ntmps37
  go_wp2
  go_loopw [3, 4, 5, 6] (fun v t4 _ _ wr => ∃ (i q : Nat) (ds : List Nat), t4 = .int .i64 i ∧ wr.ownsRow w0.heap.size 3 1 v q (ds.map iv) ∧ Ext w0 wr ∧ Hid (OfInv (lb l) ds i) ∧ i ≤ n + 2 ∧ 3 * q = i) (fun _ t4 _ _ _ => n + 3 - (intOf t4).toNat)
  case atStart => exact ⟨0, 0, [], rfl, World.ownsRow_nil w0 _ _ 1, Ext.refl _, Lib.hid (OfInv.start _), by omega, rfl⟩
  case round =>
    rename_i wr
    obtain ⟨i, q, ds, rfl, ho, hE, HP, hi, hq⟩ := hrel
    obtain ⟨C, cc, rfl, hnc, hcm, hrd, hlen⟩ := own_form ho
    by_cases hlt : i < n
    · have g0 := (lb l i).toNat_lt
      have g1 := (lb l (i + 1)).toNat_lt
      have g2 := (lb l (i + 2)).toNat_lt
      obtain ⟨ad, rfl, hc0⟩ := (hr.ext hE).at_ (k := i) (by rw [List.length_map, HN.out]; exact hlt)
      rw [List.getElem_map, ← lb_lt] at hc0
      have HS : d3 (lb l) i = (lb l i).toNat + 256 * ((lb l (i + 1)).toNat + 256 * (lb l (i + 2)).toNat) := rfl
      replace hc0 : wr.cell? (ad.add i) = some (.int .u8 ((lb l i).toNat : Int)) := hc0
      by_cases h2 : i + 2 < n
      · obtain ⟨ad2, ha2, hc2⟩ := (hr.ext hE).at_ (k := i + 2) (by rw [List.length_map, HN.out]; exact h2)
        obtain ⟨ad1, ha1, hc1⟩ := (hr.ext hE).at_ (k := i + 1) (by rw [List.length_map, HN.out]; omega)
        cases ha2
        cases ha1
        rw [List.getElem_map, ← lb_lt] at hc1 hc2
        replace hc1 := cell_struct hc1
        replace hc2 := cell_struct hc2
        replace hc1 : wr.cell? ⟨ad.block, ad.off + (i + 1), none⟩ = some (.int .u8 ((lb l (i + 1)).toNat : Int)) := hc1
        replace hc2 : wr.cell? ⟨ad.block, ad.off + (i + 2), none⟩ = some (.int .u8 ((lb l (i + 2)).toNat : Int)) := hc2
        generalize (lb l i).toNat = b0 at *
        generalize (lb l (i + 1)).toNat = b1 at *
        generalize (lb l (i + 2)).toNat = b2 at *
        replace HS : d3 (lb l) i = 256 * (256 * b2 + b1) + b0 := by omega
        have HT : Hid (OfInv (lb l) (ds ++ [256 * (256 * b2 + b1) + b0]) (i + 3)) := Lib.hid (HS ▸ HP.out.step)
        clear HS
        go_wp2
        refine wp_loop_rounds 4 ?_
        rw [rounds_succ]
        go_wp2
        rw [rounds_succ]
        go_wp2
        rw [rounds_succ]
        go_wp2
        rw [rounds_succ]
        go_wp2_with (at_builtin; refine wpList_app rfl (.tmp 34) (.tmp 36) 28 3 8 rfl introw w0.heap.size _ q _ rfl (own_ext ho (ext_alloc _ _)) _ 1 1 [iv (256 * (256 * b2 + b1) + b0)] rfl rfl (rd_new_one _ _ _) (one_map_iv [_]) (by simp [maxLen]; omega) (by omega) (hE.trans (ext_alloc _ _)).size ?_; intro A2 c2' w2 ho2 hc2' hm2 hr2' hE2 hg2; have hEn := hE2 w0 (hE.trans (ext_alloc _ _)) (Nat.le_refl _); clear hE2 hg2 hr2')
        refine ⟨⟨i + 3, q + 1, ds ++ [256 * (256 * b2 + b1) + b0], by go_num, by rw [List.map_append]; exact ho2, hEn, HT, by omega, by omega⟩, by simp [intOf]; omega⟩
      · rw [lb_ge (l := l) (j := i + 2) (by rw [HN.out]; omega)] at HS
        by_cases h1 : i + 1 < n
        · obtain ⟨ad1, ha1, hc1⟩ := (hr.ext hE).at_ (k := i + 1) (by rw [List.length_map, HN.out]; omega)
          cases ha1
          rw [List.getElem_map, ← lb_lt] at hc1
          replace hc1 := cell_struct hc1
          replace hc1 : wr.cell? ⟨ad.block, ad.off + (i + 1), none⟩ = some (.int .u8 ((lb l (i + 1)).toNat : Int)) := hc1
          generalize (lb l i).toNat = b0 at *
          generalize (lb l (i + 1)).toNat = b1 at *
          replace HS : d3 (lb l) i = 256 * b1 + b0 := by rw [HS]; simp; omega
          have HT : Hid (OfInv (lb l) (ds ++ [256 * b1 + b0]) (i + 3)) := Lib.hid (HS ▸ HP.out.step)
          clear HS
          go_wp2
          refine wp_loop_rounds 4 ?_
          rw [rounds_succ]
          go_wp2
          rw [rounds_succ]
          go_wp2
          rw [rounds_succ]
          go_wp2
          rw [rounds_succ]
          go_wp2_with (at_builtin; refine wpList_app rfl (.tmp 34) (.tmp 36) 28 3 8 rfl introw w0.heap.size _ q _ rfl (own_ext ho (ext_alloc _ _)) _ 1 1 [iv (256 * b1 + b0)] rfl rfl (rd_new_one _ _ _) (one_map_iv [_]) (by simp [maxLen]; omega) (by omega) (hE.trans (ext_alloc _ _)).size ?_; intro A2 c2' w2 ho2 hc2' hm2 hr2' hE2 hg2; have hEn := hE2 w0 (hE.trans (ext_alloc _ _)) (Nat.le_refl _); clear hE2 hg2 hr2')
          refine ⟨⟨i + 3, q + 1, ds ++ [256 * b1 + b0], by go_num, by rw [List.map_append]; exact ho2, hEn, HT, by omega, by omega⟩, by simp [intOf]; omega⟩
        · rw [lb_ge (l := l) (j := i + 1) (by rw [HN.out]; omega)] at HS
          generalize (lb l i).toNat = b0 at *
          replace HS : d3 (lb l) i = b0 := by rw [HS]; simp
          have HT : Hid (OfInv (lb l) (ds ++ [b0]) (i + 3)) := Lib.hid (HS ▸ HP.out.step)
          clear HS
          go_wp2
          refine wp_loop_rounds 4 ?_
          rw [rounds_succ]
          go_wp2
          rw [rounds_succ]
          go_wp2
          rw [rounds_succ]
          go_wp2
          rw [rounds_succ]
          go_wp2_with (at_builtin; refine wpList_app rfl (.tmp 34) (.tmp 36) 28 3 8 rfl introw w0.heap.size _ q _ rfl (own_ext ho (ext_alloc _ _)) _ 1 1 [iv (b0)] rfl rfl (rd_new_one _ _ _) (one_map_iv [_]) (by simp [maxLen]; omega) (by omega) (hE.trans (ext_alloc _ _)).size ?_; intro A2 c2' w2 ho2 hc2' hm2 hr2' hE2 hg2; have hEn := hE2 w0 (hE.trans (ext_alloc _ _)) (Nat.le_refl _); clear hE2 hg2 hr2')
          refine ⟨⟨i + 3, q + 1, ds ++ [b0], by go_num, by rw [List.map_append]; exact ho2, hEn, HT, by omega, by omega⟩, by simp [intOf]; omega⟩
    · have HV : Hid (dval ds = bsum (lb l) n) := Lib.hid (by
        rw [HP.out.val, show i = n + (i - n) from by omega]
        exact bsum_more _ fun j hj => lb_ge (by rw [HN.out]; exact hj))
      have HQ : Hid (ds.length = q) := Lib.hid (by have := HP.out.len; omega)
      go_wp2_with (go_at_call 80; with_reducible refine (cut_any C q cc ds _ HQ.out HP.out.small hrd (by omega) hnc).mono ?_; rintro e w' ⟨r, rfl, hri, hrv, hrc, rfl⟩)
      go_ret
      exact ⟨_, rfl, Num.mk (by rw [List.length_take, HQ.out, Nat.min_eq_left hri]) (by omega) (by rw [List.map_take]; exact hrd.take r) hrc (by rw [hrv, HV.out]) (by omega), hE⟩
end Go.Proofs.Ytndohjgfjbopnaa
end
section
/-
  Walks of the document's answer: halves.
-/
set_option linter.unusedSimpArgs false
set_option linter.unusedVariables false
namespace Go.Cv.Dig
open Go.RowKit
/-- Digits as cells. -/
theorem icells_ex (l : List Nat) : ∃ c : Array Value, c = (l.map iv).toArray := ⟨_, rfl⟩
noncomputable def icells (l : List Nat) : Array Value := Classical.choose (icells_ex l)
theorem icells_def (l : List Nat) : icells l = (l.map iv).toArray := Classical.choose_spec (icells_ex l)
@[simp, go_sem] theorem icells_size (l : List Nat) : (icells l).size = l.length := by rw [icells_def]; simp
theorem icells_get (l : List Nat) {i : Nat} (h : i < l.length) : (icells l)[i]? = some (iv (dg l i)) := by
  rw [icells_def, dg_lt h]
  simp [h]
theorem icells_set (l : List Nat) (i v : Nat) : (icells l).setIfInBounds i (iv v) = icells (l.set i v) := by
  rw [icells_def, icells_def]
  simp [List.map_set]
theorem rd_icells (w : World) (l : List Nat) (T : TypeId) : Rd (w.alloc (.cells (icells l) T)) (some ⟨w.heap.size, 0, none⟩) (l.map iv) := Rd.of_cells fun j u hu => by
  rw [show (Addr.add ⟨w.heap.size, 0, none⟩ j) = ⟨w.heap.size, j, none⟩ from by unfold Addr.add; split <;> simp_all]
  rw [World.cell?_alloc_at _ _ _ _ rfl, icells_def]
  simpa using hu
theorem dg_set {l : List Nat} {i j v : Nat} (h : i < l.length) : dg (l.set i v) j = if j = i then v else dg l j := by
  unfold dg
  rw [List.getD_eq_getElem?_getD, List.getElem?_set]
  by_cases hij : i = j
  · subst hij
    simp [h]
  · have : ¬ j = i := fun e => hij e.symm
    simp [hij, this, List.getD_eq_getElem?_getD]
theorem Small.set {l : List Nat} (h : Small l) {v : Nat} (i : Nat) (hv : v < 16777216) : Small (l.set i v) := fun d hd => by
  rcases List.mem_or_eq_of_mem_set hd with h1 | h1
  · exact h d h1
  · rw [h1]; exact hv
/-- The half's digit. -/
def hd (l : List Nat) (i : Nat) : Nat := dg l i / 2 + dg l (i + 1) % 2 * 8388608
theorem hd_lt {l : List Nat} (h : Small l) (i : Nat) : hd l i < 16777216 := by
  have := h.dg i
  unfold hd
  omega
theorem half_val {l hs : List Nat} (h : ∀ j, j < l.length → dg hs j = hd l j) : ∀ i, i ≤ l.length → 2 * lo hs i + dg l 0 % 2 = lo l i + 16777216 ^ i * (dg l i % 2)
  | 0, _ => by simp [lo_zero]
  | i + 1, hi => by
    have ih := half_val h i (by omega)
    rw [lo_succ, lo_succ, h i (by omega), Nat.pow_succ]
    unfold hd
    have e : 16777216 ^ i * dg l i = 16777216 ^ i * (dg l i % 2) + 2 * (16777216 ^ i * (dg l i / 2)) := by
      rw [Nat.mul_left_comm, ← Nat.mul_add]
      congr 1
      omega
    rw [Nat.mul_add (16777216 ^ i) (dg l i / 2), ← Nat.mul_assoc (16777216 ^ i) _ 8388608]
    have e2 : 16777216 ^ i * (dg l (i + 1) % 2) * 8388608 * 2 = 16777216 ^ i * 16777216 * (dg l (i + 1) % 2) := by
      rw [Nat.mul_assoc, Nat.mul_right_comm]
    omega
theorem half_done {l hs : List Nat} (hl : hs.length = l.length) (h : ∀ j, j < l.length → dg hs j = hd l j) : dval hs = dval l / 2 ∧ dval l % 2 = dg l 0 % 2 := by
  have h1 := half_val h l.length (Nat.le_refl _)
  rw [lo_all (Nat.le_refl _), lo_all (by omega), dg_ge (Nat.le_refl _)] at h1
  omega
end Go.Cv.Dig
namespace Go.Proofs.Ytndohjgfjbopnaa
open Go.RowKit Go.Cv Go.Cv.Dig

theorem digit_succ (A : Option Addr) (n cap : Nat) (l : List Nat) (i : Nat) (w : World) (hn : l.length = n) (hr : Rd w A (l.map iv)) (hm : n ≤ 140737488355328) (hi : i + 1 < 4611686018427387904) :
    Calls Try.prog 61 #[.slice A n cap, .int .i64 ((i : Int) + 1)] w fun e w' => e = .returned (iv (dg l (i + 1))) ∧ w' = w := digit_any A n cap l (i + 1) w hn hr hm hi
theorem digit_zero (A : Option Addr) (n cap : Nat) (l : List Nat) (w : World) (hn : l.length = n) (hr : Rd w A (l.map iv)) (hm : n ≤ 140737488355328) :
    Calls Try.prog 61 #[.slice A n cap, .int .i64 0] w fun e w' => e = .returned (iv (dg l 0)) ∧ w' = w := digit_any A n cap l 0 w hn hr hm (by decide)
theorem made_icells (n : Nat) : madeCells (Value.cells (.int .i64 0)) n = icells (List.replicate n 0) := by
  rw [icells_def]
  apply Array.ext_getElem?
  intro j
  by_cases hj : j < n
  · simp [madeCells, Value.cells, hj, Nat.mod_one]
  · rw [Array.getElem?_eq_none (by rw [size_madeCells]; omega), Array.getElem?_eq_none (by simp; omega)]
@[go_sem] theorem make_int (n : Nat) (w : World) (hn : n ≤ 1000000) : (Instr.makeSlice 28 (.int .i64 (n : Int)) (.int .i64 (n : Int))).run Try.prog w =
    .ok (.slice (some ⟨w.heap.size, 0, none⟩) n n) (w.alloc (.cells (icells (List.replicate n 0)) 3)) := by
  obtain ⟨i, h1, h2, h3, h4⟩ := info_parts (show (Try.prog.info? 3).map (fun i => (i.zero, i.size, i.bytes)) = some (some (.int .i64 0), 1, 8) from by kernel_rfl)
  have h := run_makeSlice (P := Try.prog) w 28 3 i (.int .i64 0) Try.underlying28 h1 h2 .i64 .i64 n n (by omega) (by omega) (by rw [h3]; omega) (by rw [h4]; omega) (by omega)
  rw [h, h3, Int.toNat_natCast, Nat.mul_one]
  rw [made_icells]

set_option maxRecDepth 4000 in
set_option maxHeartbeats 2000000 in
theorem half_any (A : Option Addr) (n c1 : Nat) (l : List Nat) (w : World) (hn : l.length = n) (hl : Canon l) (hr : Rd w A (l.map iv)) (hb : n ≤ 1000000) :
    Calls Try.prog 66 #[.slice A n c1] w fun e w' => ∃ v, e = .returned (.tuple #[v, .bool (dval l % 2 == 1)]) ∧ Num w' v (dval l / 2) n ∧ Ext w w' := by
  have HN := Lib.hid hn
  have HL := Lib.hid hl
  clear hl hn
  go_enter Try.func66, Try.ntmps66
  go_wp2
  go_loopw [5] (fun t wr => ∃ (i : Nat) (hs : List Nat) (x : Nat × Array Obj), i ≤ n ∧ t = .int .i64 i ∧ wr = grw (w.alloc (.cells (icells hs) 3)) x ∧ hs.length = n ∧ Small hs ∧ ∀ j, j < i → dg hs j = hd l j) (fun t _ => n - (intOf t).toNat)
  case atStart => exact ⟨0, List.replicate n 0, _, Nat.zero_le _, rfl, grw_self _, by simp, fun d hd => by rw [List.eq_of_mem_replicate hd]; decide, fun _ h => absurd h (by omega)⟩
  case round =>
    obtain ⟨i, hs, x, hi, rfl, rfl, hlen, hsm, hdg⟩ := hrel
    have HSM := Lib.hid hsm
    have HDG := Lib.hid hdg
    have HLEN := Lib.hid hlen
    have hsz : (icells hs).size = n := by rw [icells_size, hlen]
    clear hsm hdg hlen
    by_cases hlt : i < n
    · have h1 := HL.out.1.dg i
      have h2 := HL.out.1.dg (i + 1)
      have hg : (icells hs)[i]? = some (iv (dg hs i)) := icells_get hs (by rw [HLEN.out]; exact hlt)
      obtain ⟨ad, rfl, hcell⟩ := hr.at_ (k := i) (by rw [List.length_map, HN.out]; exact hlt)
      rw [List.getElem_map, ← dg_lt] at hcell
      have hall : ∀ z : Nat, (grw (w.alloc (.cells (icells hs) 3)) (z, x.2)).cell? (ad.add i) = some (iv (dg l i)) := fun z => Ext.cell ((ext_alloc _ _).trans (grw_ext _ _)) hcell
      have w1 : IntKind.i64.wrap ((i : Int) + 1) = (i : Int) + 1 := IntWalk.i64_in _ (by omega)
      have w2 : IntKind.i64.wrap ((dg l i : Int) / 2) = (dg l i : Int) / 2 := IntWalk.i64_in _ (by omega)
      obtain ⟨e, he⟩ : ∃ e, e = dg l (i + 1) % 2 := ⟨_, rfl⟩
      have hel : e < 2 := by omega
      have w3 : (dg l (i + 1) : Int).tmod 2 = (e : Int) := by rw [he]; rfl
      have HHD : Hid (hd l i = dg l i / 2 + e * 8388608) := Lib.hid (by rw [he]; rfl)
      clear he
      have w4 : IntKind.i64.wrap ((e : Int) * 8388608) = (e : Int) * 8388608 := IntWalk.i64_in _ (by omega)
      have w5 : IntKind.i64.wrap ((dg l i : Int) / 2 + (e : Int) * 8388608) = (dg l i : Int) / 2 + (e : Int) * 8388608 := IntWalk.i64_in _ (by omega)
      go_wp2
      go_region_with (go_at_call 61; with_reducible refine (digit_succ (some ad) n c1 l i _ HN.out (hr.ext ((ext_alloc _ _).trans (grw_ext _ _))) (by omega) (by omega)).mono ?_; rintro e w' ⟨rfl, rfl⟩)
      all_goals
        go_wp2
        refine ⟨⟨i + 1, hs.set i (hd l i), _, by omega, by go_num, by rw [← icells_set, HHD.out]; rfl, by rw [List.length_set, HLEN.out], HSM.out.set _ (hd_lt HL.out.1 i), fun j hj => ?_⟩, by simp [intOf]; omega⟩
        rw [dg_set (by rw [HLEN.out]; exact hlt)]
        split
        · rename_i hji; rw [hji]
        · exact HDG.out j (by omega)
    · have hin : i = n := by omega
      subst hin
      have HV := Lib.hid (half_done (hs := hs) (l := l) (by rw [HLEN.out, HN.out]) (by rw [HN.out]; exact HDG.out))
      have hd0 := HL.out.1.dg 0
      obtain ⟨e, he⟩ : ∃ e, e = dg l 0 % 2 := ⟨_, rfl⟩
      have w1 : (dg l 0 : Int).tmod 2 = (e : Int) := by rw [he]; rfl
      replace he := Lib.hid he
      have hrd : Rd (grw (w.alloc (.cells (icells hs) 3)) x) (some ⟨w.heap.size, 0, none⟩) (hs.map iv) := (rd_icells w hs _).ext (grw_ext _ _)
      go_wp2_with (first
        | (go_at_call 80; with_reducible refine (cut_any _ i i hs _ HLEN.out HSM.out hrd (by omega) (Nat.le_refl _)).mono ?_; rintro e w' ⟨r, rfl, hri, hrv, hrc, rfl⟩)
        | (go_at_call 61; with_reducible refine (digit_zero A i c1 l _ HN.out (hr.ext ((ext_alloc _ _).trans (grw_ext _ _))) (by omega)).mono ?_; rintro e w' ⟨rfl, rfl⟩))
      go_ret2
      have he2 : ((e : Int) == 1) = (dval l % 2 == 1) := by
        rw [HV.out.2, ← he.out, Bool.eq_iff_iff, beq_iff_eq, beq_iff_eq]
        omega
      refine ⟨_, by rw [← he2]; rfl, Num.mk (by rw [List.length_take, HLEN.out, Nat.min_eq_left hri]) hri (by rw [List.map_take]; exact hrd.take r) hrc (by rw [hrv, HV.out.1]) hri, (ext_alloc _ _).trans (grw_ext _ _)⟩
end Go.Proofs.Ytndohjgfjbopnaa
end
section
/-
  Walks of the document's answer: nineteen times a number.
-/
set_option linter.unusedSimpArgs false
set_option linter.unusedVariables false
namespace Go.Cv.Dig
open Go.RowKit
/-- What stands behind i digits of the product with 19. -/
structure NineInv (l os : List Nat) (i : Nat) : Prop where
  len : os.length = l.length + 1
  small : Small os
  val : dval os = 19 * lo l i
  zero : ∀ j, i < j → dg os j = 0
theorem dval_replicate (n : Nat) : dval (List.replicate n 0) = 0 := dval_zeros fun d hd => List.eq_of_mem_replicate hd
theorem NineInv.start (l : List Nat) : NineInv l (List.replicate (l.length + 1) 0) 0 := by
  refine ⟨by simp, fun d hd => by rw [List.eq_of_mem_replicate hd]; decide, by rw [dval_replicate, lo_zero], fun j _ => ?_⟩
  unfold dg
  rw [List.getD_eq_getElem?_getD, List.getElem?_replicate]
  split <;> rfl
theorem NineInv.step {l os : List Nat} {i : Nat} (hl : Small l) (hi : i < l.length) (h : NineInv l os i) :
    NineInv l ((os.set i ((dg os i + dg l i * 19) % 16777216)).set (i + 1) ((dg os i + dg l i * 19) / 16777216)) (i + 1) := by
  have h1 := hl.dg i
  have h2 := h.small.dg i
  have hlen := h.len
  have ha : dval (os.set i ((dg os i + dg l i * 19) % 16777216)) + 16777216 ^ i * dg os i = dval os + 16777216 ^ i * ((dg os i + dg l i * 19) % 16777216) := dval_set (by omega) _
  have hz : dg (os.set i ((dg os i + dg l i * 19) % 16777216)) (i + 1) = 0 := by
    rw [dg_set (by omega), if_neg (by omega)]
    exact h.zero _ (by omega)
  have hb := dval_set (l := os.set i ((dg os i + dg l i * 19) % 16777216)) (i := i + 1) (by rw [List.length_set]; omega) ((dg os i + dg l i * 19) / 16777216)
  rw [hz, Nat.mul_zero, Nat.add_zero] at hb
  refine ⟨by rw [List.length_set, List.length_set, hlen], (h.small.set _ (Nat.mod_lt _ (by decide))).set _ (by omega), ?_, fun j hj => ?_⟩
  · rw [hb, lo_succ, Nat.mul_add, ← h.val, Nat.pow_succ]
    have e := Nat.mod_add_div (dg os i + dg l i * 19) 16777216
    have e2 : 16777216 ^ i * ((dg os i + dg l i * 19) % 16777216 + 16777216 * ((dg os i + dg l i * 19) / 16777216)) = 16777216 ^ i * (dg os i + dg l i * 19) := by rw [e]
    rw [Nat.mul_add, ← Nat.mul_assoc, Nat.mul_add] at e2
    have e3 : 19 * (16777216 ^ i * dg l i) = 16777216 ^ i * (dg l i * 19) := by rw [Nat.mul_left_comm, Nat.mul_comm 19]
    omega
  · rw [dg_set (by rw [List.length_set]; omega), if_neg (by omega), dg_set (by omega), if_neg (by omega)]
    exact h.zero _ (by omega)
end Go.Cv.Dig
namespace Go.Proofs.Ytndohjgfjbopnaa
open Go.RowKit Go.Cv Go.Cv.Dig
@[go_sem] theorem make_int1 (n : Nat) (w : World) (hn : n ≤ 999999) : (Instr.makeSlice 28 (.int .i64 ((n : Int) + 1)) (.int .i64 ((n : Int) + 1))).run Try.prog w =
    .ok (.slice (some ⟨w.heap.size, 0, none⟩) (n + 1) (n + 1)) (w.alloc (.cells (icells (List.replicate (n + 1) 0)) 3)) := make_int (n + 1) w (by omega)

set_option maxRecDepth 4000 in
set_option maxHeartbeats 2000000 in
theorem nine_any (A : Option Addr) (bd : Addr) (n c1 c2 : Nat) (l : List Nat) (w : World) (hn : l.length = n) (hl : Canon l) (hr : Rd w A (l.map iv)) (hr2 : w.cell? bd = some (iv 19)) (hb : n ≤ 999999) :
    Calls Try.prog 81 #[.slice A n c1, .slice (some bd) 1 c2] w fun e w' => ∃ v, e = .returned v ∧ Num w' v (19 * dval l) (n + 1) ∧ Ext w w' := by
  have HN := Lib.hid hn
  have HL := Lib.hid hl
  clear hl hn
  go_enter Try.func81, Try.ntmps81
  go_wp2
  go_loopw [6, 7, 8, 9] (fun t _ _ _ wr => ∃ (i : Nat) (os : List Nat) (x : Nat × Array Obj), i ≤ n ∧ t = .int .i64 i ∧ wr = grw (w.alloc (.cells (icells os) 3)) x ∧ Hid (NineInv l os i)) (fun t _ _ _ _ => n - (intOf t).toNat)
  case atStart => exact ⟨0, List.replicate (n + 1) 0, _, Nat.zero_le _, rfl, grw_self _, Lib.hid (HN.out ▸ NineInv.start l)⟩
  case round =>
    obtain ⟨i, os, x, hi, rfl, rfl, HP⟩ := hrel
    have hlen : (icells os).size = n + 1 := by rw [icells_size, HP.out.len, HN.out]
    by_cases hlt : i < n
    · have h1 := HL.out.1.dg i
      have h2 := HP.out.small.dg i
      have hg : (icells os)[i]? = some (iv (dg os i)) := icells_get os (by rw [HP.out.len, HN.out]; omega)
      have hg2 : ∀ h : i < (icells os).size, (icells os)[i]'h = iv (dg os i) := fun h => by rw [Array.getElem?_eq_getElem h] at hg; exact Option.some.inj hg
      have HS := Lib.hid (HP.out.step HL.out.1 (by rw [HN.out]; exact hlt))
      obtain ⟨ad, rfl, hcell⟩ := hr.at_ (k := i) (by rw [List.length_map, HN.out]; exact hlt)
      rw [List.getElem_map, ← dg_lt] at hcell
      have hall : ∀ z : Nat, (grw (w.alloc (.cells (icells os) 3)) (z, x.2)).cell? (ad.add i) = some (iv (dg l i)) := fun z => Ext.cell ((ext_alloc _ _).trans (grw_ext _ _)) hcell
      have hbll : ∀ z : Nat, (grw (w.alloc (.cells (icells os) 3)) (z, x.2)).cell? bd = some (iv 19) := fun z => Ext.cell ((ext_alloc _ _).trans (grw_ext _ _)) hr2
      have w1 : IntKind.i64.wrap ((dg l i : Int) * 19) = (dg l i : Int) * 19 := IntWalk.i64_in _ (by omega)
      have w2 : IntKind.i64.wrap ((dg os i : Int) + (dg l i : Int) * 19) = (dg os i : Int) + (dg l i : Int) * 19 := IntWalk.i64_in _ (by omega)
      go_wp2
      refine wp_loop_rounds 2 ?_
      rw [rounds_succ]
      go_wp2
      go_region
      all_goals
        go_wp2
        rw [rounds_succ]
        go_wp2
        refine ⟨⟨i + 1, (os.set i ((dg os i + dg l i * 19) % 16777216)).set (i + 1) ((dg os i + dg l i * 19) / 16777216), _, by omega, by go_num, by rw [← icells_set, ← icells_set]; rfl, HS⟩, by simp [intOf]; omega⟩
    · have hin : i = n := by omega
      subst hin
      have HV : Hid (dval os = 19 * dval l) := Lib.hid (by rw [HP.out.val, lo_all (Nat.le_of_eq HN.out)])
      have hrd : Rd (grw (w.alloc (.cells (icells os) 3)) x) (some ⟨w.heap.size, 0, none⟩) (os.map iv) := (rd_icells w os _).ext (grw_ext _ _)
      go_wp2_with (go_at_call 80; with_reducible refine (cut_any _ (i + 1) (i + 1) os _ (by rw [HP.out.len, HN.out]) HP.out.small hrd (by omega) (Nat.le_refl _)).mono ?_; rintro e w' ⟨r, rfl, hri, hrv, hrc, rfl⟩)
      go_ret
      exact ⟨_, rfl, Num.mk (by rw [List.length_take, HP.out.len, HN.out, Nat.min_eq_left hri]) hri (by rw [List.map_take]; exact hrd.take r) hrc (by rw [hrv, HV.out]) hri, (ext_alloc _ _).trans (grw_ext _ _)⟩
end Go.Proofs.Ytndohjgfjbopnaa
end
section
/-
  Walks of the document's answer: a number modulo the prime.
-/
set_option linter.unusedSimpArgs false
set_option linter.unusedVariables false
namespace Go.Cv
/-- The least number of which P holds. -/
theorem least_ex (P : Nat → Prop) (h : ∃ n, P n) : ∃ n, P n ∧ ∀ m, P m → n ≤ m := by
  obtain ⟨n, hn⟩ := h
  induction n using Nat.strongRecOn with
  | ind n ih =>
    by_cases h2 : ∃ m, m < n ∧ P m
    · obtain ⟨m, hm, hp⟩ := h2
      exact ih m hm hp
    · exact ⟨n, hn, fun m hm => Nat.le_of_not_lt fun hl => h2 ⟨m, hl, hm⟩⟩
open Classical in
noncomputable def leastN (P : Nat → Prop) : Nat := if h : ∃ n, P n then Classical.choose (least_ex P h) else 0
theorem leastN_spec {P : Nat → Prop} (h : ∃ n, P n) : P (leastN P) := by
  unfold leastN; rw [dif_pos h]; exact (Classical.choose_spec (least_ex P h)).1
theorem leastN_lt {P : Nat → Prop} {m k : Nat} (h : P m) (hk : m < k) : leastN P < k := by
  have e : ∃ n, P n := ⟨m, h⟩
  unfold leastN; rw [dif_pos e]; exact Nat.lt_of_le_of_lt ((Classical.choose_spec (least_ex P e)).2 m h) hk
end Go.Cv
namespace Go.Cv.Dig
open Go.RowKit
/-- What a round of Mod makes of eleven digits. -/
theorem mod_split {m : List Nat} (hc : Canon m) (hl : m.length = 11) :
    ∃ y, dval (m.take 10 ++ [dg m 10 % 32768]) = y ∧ y < 2 ^ 255 ∧ dval m = y + 2 ^ 255 * (dg m 10 / 32768) := by
  have h10 := hc.1.dg 10
  have h1 := lo_hi m (i := 10) (by omega)
  have h2 : hi m 10 = dg m 10 := by
    rw [hi_cons (by omega)]
    unfold hi
    rw [List.drop_of_length_le (by omega)]
    simp [dval]
  have h3 := lo_lt hc.1 10
  refine ⟨_, rfl, ?_⟩
  have h4 : dval (m.take 10 ++ [dg m 10 % 32768]) = lo m 10 + 16777216 ^ 10 * (dg m 10 % 32768) := by
    rw [dval_snoc, List.length_take, hl]; rfl
  rw [h4, h1, h2]
  have h5 := Nat.mod_lt (dg m 10) (show 0 < 32768 by decide)
  have h6 := Nat.mod_add_div (dg m 10) 32768
  generalize dg m 10 % 32768 = r at *
  generalize dg m 10 / 32768 = q at *
  rw [← h6]
  rw [← h6] at h10
  omega
theorem mod_step {x y h N : Nat} (e : x = y + 2 ^ 255 * h) (hh : 0 < h) (hb : h < 512) (hy : y < 2 ^ 255) (hm : x % (2 ^ 255 - 19) = N) :
    (y + 19 * h) % (2 ^ 255 - 19) = N ∧ y + 19 * h < x ∧ y + 19 * h < 16777216 ^ 11 := by
  refine ⟨?_, by omega, by omega⟩
  rw [← hm, e]
  have e2 : y + 2 ^ 255 * h = y + 19 * h + (2 ^ 255 - 19) * h := by omega
  rw [e2, Nat.add_mul_mod_self_left]
theorem small_low {m : List Nat} (hc : Canon m) : Small (m.take 10 ++ [dg m 10 % 32768]) := (hc.1.take 10).snoc (by omega)
theorem low_map (m : List Nat) (d : Nat) : (m.take 10).map iv ++ [iv d] = (m.take 10 ++ [d]).map iv := by simp
theorem dval_lt11 {m : List Nat} (hc : Canon m) (h : m.length < 11 ∨ m.length = 11 ∧ dg m 10 < 32768) : dval m < 2 ^ 255 := by
  rcases h with h | ⟨h, h2⟩
  · have := pdig_lt hc (.inl h); omega
  · obtain ⟨y, h3, h4, h5⟩ := mod_split hc h
    rw [Nat.div_eq_of_lt h2] at h5
    omega
theorem Canon.of_snoc {d : Nat} (h : d < 16777216) : Small [d] := fun x hx => by rw [List.mem_singleton.1 hx]; exact h
theorem dval_one (d : Nat) : dval [d] = d := by simp [dval]
end Go.Cv.Dig
namespace Go.Proofs.Ytndohjgfjbopnaa
open Go.RowKit Go.Cv Go.Cv.Dig
theorem Num.parts {w : World} {v : Value} {x N : Nat} (h : Num w v x N) : ∃ A n c l, v = .slice A n c ∧ l.length = n ∧ n ≤ c ∧ Rd w A (l.map iv) ∧ Canon l ∧ dval l = x ∧ n ≤ N := h
theorem Num.short {w : World} {v : Value} {x N M : Nat} (h : Num w v x N) (hx : x < 16777216 ^ M) : Num w v x M := by
  obtain ⟨A, n, c, l, rfl, hn, hc, hr, hl, rfl, hN⟩ := h
  exact Num.mk hn hc hr hl rfl (by rw [← hn]; exact hl.len_le hx)
theorem cell_new_one (w : World) (v : Value) (t : TypeId) : (w.alloc (.cells #[v] t)).cell? ⟨w.heap.size, 0, none⟩ = some v := by
  obtain ⟨ad, h1, h2⟩ := (rd_new_one w v t).at_ (k := 0) (by simp)
  cases h1
  exact h2
theorem take_one (q : Nat) {r : Nat} (h : r ≤ 1) : ([q].take r).length = r := by
  rw [List.length_take]; exact Nat.min_eq_left h
theorem cell_19 (w : World) (t : TypeId) : (w.alloc (.cells #[.int .i64 19] t)).cell? ⟨w.heap.size, 0, none⟩ = some (iv 19) := cell_new_one w _ t
theorem digit_past (A : Option Addr) (cap : Nat) (l : List Nat) (w : World) (hn : l.length = 11) (hr : Rd w A (l.map iv)) :
    Calls Try.prog 61 #[.slice A 11 cap, .int .i64 11] w fun e w' => e = .returned (.int .i64 0) ∧ w' = w := by
  refine (digit_any A 11 cap l 11 w hn hr (by decide) (by decide)).mono ?_
  rintro e w' ⟨rfl, rfl⟩
  rw [dg_ge (by omega)]
  exact ⟨rfl, rfl⟩

set_option maxRecDepth 20000 in
set_option maxHeartbeats 4000000 in
theorem mod_any (w : World) (v0 : Value) (x0 : Nat) (h0 : Num w v0 x0 11) :
    Calls Try.prog 60 #[v0] w fun e w' => ∃ v, e = .returned v ∧ Num w' v (x0 % (2 ^ 255 - 19)) 11 ∧ Ext w w' := by
  obtain ⟨A0, n0, cap0, l0, rfl, h0⟩ := h0
  replace h0 : Hid (Num w (.slice A0 n0 cap0) x0 11) := Lib.hid ⟨A0, n0, cap0, l0, rfl, h0⟩
  obtain ⟨N, hN⟩ : ∃ N, N = x0 % (2 ^ 255 - 19) := ⟨_, rfl⟩
  rw [← hN]
  replace hN := Lib.hid hN
  go_enter Try.func60, Try.ntmps60
  go_wp2
  obtain ⟨R, hR⟩ : ∃ R : World → Value → Nat → Prop, R = fun wr v x => Num wr v x 11 ∧ Ext w wr ∧ Hid (x % (2 ^ 255 - 19) = N) := ⟨_, rfl⟩
  replace hR := Lib.hid hR
  go_loopw [0] (fun v wr => ∃ x, R wr v x) (fun v wr => leastN (R wr v))
  case atStart => exact ⟨x0, by rw [hR.out]; exact ⟨h0.out, Ext.refl _, Lib.hid hN.out.symm⟩⟩
  case round =>
    have hsp := leastN_spec hrel
    clear hrel
    obtain ⟨x, hx⟩ : ∃ x, x = leastN (R wr u0) := ⟨_, rfl⟩
    rw [← hx, hR.out] at hsp
    replace hx := Lib.hid hx
    obtain ⟨hnum, hE, HX⟩ := hsp
    obtain ⟨A, n, c, m, rfl, hn, hc, hr, hcan, hval, hle⟩ := hnum
    have HN := Lib.hid hn
    have HC := Lib.hid hcan
    have HV := Lib.hid hval
    clear hn hcan hval
    by_cases h11 : n < 11
    · have HB := Lib.hid (dval_lt11 HC.out (.inl (by rw [HN.out]; exact h11)))
      go_wp2_with (go_at_call 91; with_reducible refine (below_any A n c m _ HN.out HC.out HB.out hr hle hc).mono ?_; rintro e w' ⟨v, rfl, hv, hx'⟩)
      go_ret
      exact ⟨_, rfl, by rw [HV.out, HX.out] at hv; exact hv, hE.trans hx'⟩
    · obtain rfl : n = 11 := by omega
      obtain ⟨ad, rfl, hcell⟩ := hr.at_ (k := 10) (by rw [List.length_map, HN.out]; decide)
      have hd10 := dg_lt (l := m) (i := 10) (by rw [HN.out]; decide)
      rw [List.getElem_map, ← hd10] at hcell
      clear hd10
      replace hcell : wr.cell? ⟨ad.block, ad.off + 10, none⟩ = some (iv (dg m 10)) := by
        have e : ad.add 10 = ⟨ad.block, ad.off + 10, none⟩ := by unfold Addr.add; rfl
        rw [← e]; exact hcell
      by_cases hd : dg m 10 < 32768
      · have HB := Lib.hid (dval_lt11 HC.out (.inr ⟨HN.out, hd⟩))
        have hd' : decide ((32768 : Int) ≤ (dg m 10 : Int)) = false := decide_eq_false (by omega)
        go_wp2_with (go_at_call 91; with_reducible refine (below_any (some ad) 11 c m _ HN.out HC.out HB.out hr hle hc).mono ?_; rintro e w' ⟨v, rfl, hv, hx'⟩)
        go_ret
        exact ⟨_, rfl, by rw [HV.out, HX.out] at hv; exact hv, hE.trans hx'⟩
      · have hd' : decide ((32768 : Int) ≤ (dg m 10 : Int)) = true := decide_eq_true (by omega)
        have hds := HC.out.1.dg 10
        obtain ⟨y, hy, hyb, hys⟩ := mod_split HC.out HN.out
        have HY := Lib.hid hy
        have HS := Lib.hid (mod_step (N := N) hys (by omega) (by omega) hyb (by rw [HV.out, HX.out]))
        clear hy hyb hys
        obtain ⟨r, hrr⟩ : ∃ r, r = dg m 10 % 32768 := ⟨_, rfl⟩
        have t1 : (dg m 10 : Int).tmod 32768 = (r : Int) := by rw [hrr]; rfl
        obtain ⟨q, hq⟩ : ∃ q, q = dg m 10 / 32768 := ⟨_, rfl⟩
        have t2 : IntKind.i64.wrap ((dg m 10 : Int) / 32768) = (q : Int) := by rw [IntWalk.i64_in _ (by omega), hq]; rfl
        have hq1 : q < 512 := by omega
        rw [← hrr] at HY
        rw [← hq] at HS
        have HSM : Hid (Small (m.take 10 ++ [r])) := Lib.hid (hrr ▸ small_low HC.out)
        clear hrr hq
        have HL10 : Hid (((m.take 10).map iv).length = 10) := Lib.hid (by rw [List.length_map, List.length_take, HN.out]; rfl)
        go_wp2_with (first
          | (at_builtin; refine wpList_app0 rfl (.tmp 20) (.tmp 22) 28 3 8 rfl introw rfl _ 10 _ ((m.take 10).map iv) rfl HL10.out (by rw [List.map_take]; exact hr.take 10) (one_map_iv _) (by simp [maxLen]) (by omega) ?_; intro A1 c1 w1 ho1 hc1 hm1 hr1 hx1; have hcell1 := Ext.cell hx1 hcell)
          | (at_builtin; refine wpList_app rfl (.tmp 24) (.tmp 29) 28 3 8 rfl introw wr.heap.size _ 10 _ rfl (own_ext ho1 (ext_alloc _ _)) _ 1 1 [iv r] rfl rfl (rd_new_one _ _ _) (one_map_iv [_]) (by simp [maxLen]) (by omega) (hx1.trans (ext_alloc _ _)).size ?_; intro A2 c2 w2 ho2 hc2 hm2 hr2 hE2 hg2; have hx2 := hE2 wr (hx1.trans (ext_alloc _ _)) (Nat.le_refl _); clear hE2 hg2))
        rw [low_map] at hr2
        have hcell2 := Ext.cell hx2 hcell
        have HQ1 : Hid (Small [q]) := Lib.hid (Canon.of_snoc (by omega))
        have HLL : Hid ((m.take 10 ++ [r]).length = 11) := Lib.hid (by rw [List.length_append, List.length_take, HN.out]; rfl)
        have hdig := (digit_past (some ad) c m w2.drew HN.out ((hr.ext hx2).drew))
        have w11 : IntKind.i64.wrap 11 = 11 := by decide
        have w00 : IntKind.i64.wrap 0 = 0 := by decide
        have wqq : IntKind.i64.wrap (q : Int) = (q : Int) := IntWalk.i64_in _ (by omega)
        clear hcell hcell1 hr1
        refine wp_loop_rounds 2 ?_
        rw [rounds_succ]
        go_wp2
        go_region_law (first
          | (go_simp; go_at_call 61; (with_reducible refine Calls.mono hdig ?_); rintro e w' ⟨rfl, rfl⟩)
          | (refine step_app rfl (.tmp 37) (.tmp 50) 28 3 8 rfl introw w2.heap.size (.slice none 0 0) 0 [] rfl (World.ownsRow_nil _ _ _ 1) _ 1 1 [iv q] rfl rfl (rd_new_one _ _ _).drew (one_map_iv [_]) (by simp [maxLen]) (by omega) (by simp) ?_; intro A3 c3 w3 ho3 hc3 hm3 hr3 hE3 hg3))
        all_goals
          have hx3 : Ext w2 w3 := hE3 w2 ((ext_alloc _ _).trans (ext_drew _)) (Nat.le_refl _)
          have hcell3 := Ext.cell hx3 hcell2
          have hlow := hr2.ext hx3
          replace hr3 : Rd w3 A3 ([q].map iv) := hr3
          have htk : ∀ r, Rd w3 A3 (([q].take r).map iv) := fun r => by rw [List.map_take]; exact hr3.take r
          have hlk : ∀ r1, Rd w3 A2 (((m.take 10 ++ [r]).take r1).map iv) := fun r1 => by rw [List.map_take]; exact hlow.take r1
          clear hE3 hg3 hcell2
          go_wp2
          rw [rounds_succ]
          go_wp2_with (first
            | (go_at_call 80; with_reducible refine (cut_any A2 11 c2 (m.take 10 ++ [r]) _ HLL.out HSM.out hlow (by decide) hc2).mono ?_; rintro e w' ⟨r1, rfl, hr11, hrv1, hrc1, rfl⟩)
            | (go_at_call 80; with_reducible refine (cut_any A3 1 c3 [q] _ rfl HQ1.out hr3 (by decide) hc3).mono ?_; rintro e w' ⟨r2, rfl, hr22, hrv2, hrc2, rfl⟩)
            | (go_at_call 81; with_reducible refine (nine_any A3 _ r2 c3 1 ([q].take r2) _ (take_one q hr22) hrc2 ((htk r2).ext (ext_alloc _ _)) (cell_19 _ _) (by omega)).mono ?_; rintro e w4 ⟨v4, rfl, hnum4, hx4⟩; obtain ⟨B, nb, cb, lb, rfl, hnb, hcb, hrb, hcanb, hvb, hleb⟩ := Num.parts hnum4)
            | (go_at_call 65; with_reducible refine (plus_any A2 B r1 nb c2 cb ((m.take 10 ++ [r]).take r1) lb _ (by rw [List.length_take, HLL.out, Nat.min_eq_left hr11]) hnb hrc1 hcanb ((hlk r1).ext ((ext_alloc _ _).trans hx4)) hrb (by omega) (by omega)).mono ?_; rintro e w5 ⟨v5, rfl, hnum5, hx5⟩))
          rw [hvb, hrv1, hrv2, HY.out, dval_one] at hnum5
          have hfin : R w5 v5 (y + 19 * q) := by
            rw [hR.out]
            exact ⟨hnum5.short HS.out.2.2, hE.trans (hx2.trans (hx3.trans ((ext_alloc _ _).trans (hx4.trans hx5)))), Lib.hid HS.out.1⟩
          refine ⟨⟨_, hfin⟩, ?_⟩
          have hl := leastN_lt hfin (k := x) (by rw [← HV.out]; exact HS.out.2.1)
          rw [hx.out] at hl
          exact hl
end Go.Proofs.Ytndohjgfjbopnaa
end
