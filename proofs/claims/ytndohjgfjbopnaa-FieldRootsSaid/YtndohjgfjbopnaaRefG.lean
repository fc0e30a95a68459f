/-
  Walks of the document's answer: halves.
-/
import Derived.Test.YtndohjgfjbopnaaRefF
import Derived.Laws.MakeOwn
set_option linter.unusedSimpArgs false
set_option linter.unusedVariables false
namespace Go.Cv.Dig
open Go.RowKit
/-- Digits as cells. -/
theorem icells_ex (l : List Nat) : ∃ c : Array Value, c = (l.map iv).toArray := ⟨_, rfl⟩
noncomputable def icells (l : List Nat) : Array Value := Classical.choose (icells_ex l)
theorem icells_def (l : List Nat) : icells l = (l.map iv).toArray := Classical.choose_spec (icells_ex l)
@[simp, go_sem] theorem icells_size (l : List Nat) : (icells l).size = l.length := by rw [icells_def]; simp
theorem icells_get (l : List Nat) {i : Nat} (h : i < l.length) : (icells l)[i]? = some (iv (dg l i)) := by
  rw [icells_def, dg_lt h]
  simp [h]
theorem icells_set (l : List Nat) (i v : Nat) : (icells l).setIfInBounds i (iv v) = icells (l.set i v) := by
  rw [icells_def, icells_def]
  simp [List.map_set]
theorem rd_icells (w : World) (l : List Nat) (T : TypeId) : Rd (w.alloc (.cells (icells l) T)) (some ⟨w.heap.size, 0, none⟩) (l.map iv) := Rd.of_cells fun j u hu => by
  rw [show (Addr.add ⟨w.heap.size, 0, none⟩ j) = ⟨w.heap.size, j, none⟩ from by unfold Addr.add; split <;> simp_all]
  rw [World.cell?_alloc_at _ _ _ _ rfl, icells_def]
  simpa using hu
theorem dg_set {l : List Nat} {i j v : Nat} (h : i < l.length) : dg (l.set i v) j = if j = i then v else dg l j := by
  unfold dg
  rw [List.getD_eq_getElem?_getD, List.getElem?_set]
  by_cases hij : i = j
  · subst hij
    simp [h]
  · have : ¬ j = i := fun e => hij e.symm
    simp [hij, this, List.getD_eq_getElem?_getD]
theorem Small.set {l : List Nat} (h : Small l) {v : Nat} (i : Nat) (hv : v < 16777216) : Small (l.set i v) := fun d hd => by
  rcases List.mem_or_eq_of_mem_set hd with h1 | h1
  · exact h d h1
  · rw [h1]; exact hv
/-- The half's digit. -/
def hd (l : List Nat) (i : Nat) : Nat := dg l i / 2 + dg l (i + 1) % 2 * 8388608
theorem hd_lt {l : List Nat} (h : Small l) (i : Nat) : hd l i < 16777216 := by
  have := h.dg i
  unfold hd
  omega
theorem half_val {l hs : List Nat} (h : ∀ j, j < l.length → dg hs j = hd l j) : ∀ i, i ≤ l.length → 2 * lo hs i + dg l 0 % 2 = lo l i + 16777216 ^ i * (dg l i % 2)
  | 0, _ => by simp [lo_zero]
  | i + 1, hi => by
    have ih := half_val h i (by omega)
    rw [lo_succ, lo_succ, h i (by omega), Nat.pow_succ]
    unfold hd
    have e : 16777216 ^ i * dg l i = 16777216 ^ i * (dg l i % 2) + 2 * (16777216 ^ i * (dg l i / 2)) := by
      rw [Nat.mul_left_comm, ← Nat.mul_add]
      congr 1
      omega
    rw [Nat.mul_add (16777216 ^ i) (dg l i / 2), ← Nat.mul_assoc (16777216 ^ i) _ 8388608]
    have e2 : 16777216 ^ i * (dg l (i + 1) % 2) * 8388608 * 2 = 16777216 ^ i * 16777216 * (dg l (i + 1) % 2) := by
      rw [Nat.mul_assoc, Nat.mul_right_comm]
    omega
theorem half_done {l hs : List Nat} (hl : hs.length = l.length) (h : ∀ j, j < l.length → dg hs j = hd l j) : dval hs = dval l / 2 ∧ dval l % 2 = dg l 0 % 2 := by
  have h1 := half_val h l.length (Nat.le_refl _)
  rw [lo_all (Nat.le_refl _), lo_all (by omega), dg_ge (Nat.le_refl _)] at h1
  omega
end Go.Cv.Dig
namespace Go.Proofs.Ytndohjgfjbopnaa
open Go.RowKit Go.Cv Go.Cv.Dig

theorem digit_succ (A : Option Addr) (n cap : Nat) (l : List Nat) (i : Nat) (w : World) (hn : l.length = n) (hr : Rd w A (l.map iv)) (hm : n ≤ 140737488355328) (hi : i + 1 < 4611686018427387904) :
    Calls Try.prog 61 #[.slice A n cap, .int .i64 ((i : Int) + 1)] w fun e w' => e = .returned (iv (dg l (i + 1))) ∧ w' = w := digit_any A n cap l (i + 1) w hn hr hm hi
theorem digit_zero (A : Option Addr) (n cap : Nat) (l : List Nat) (w : World) (hn : l.length = n) (hr : Rd w A (l.map iv)) (hm : n ≤ 140737488355328) :
    Calls Try.prog 61 #[.slice A n cap, .int .i64 0] w fun e w' => e = .returned (iv (dg l 0)) ∧ w' = w := digit_any A n cap l 0 w hn hr hm (by decide)
theorem made_icells (n : Nat) : madeCells (Value.cells (.int .i64 0)) n = icells (List.replicate n 0) := by
  rw [icells_def]
  apply Array.ext_getElem?
  intro j
  by_cases hj : j < n
  · simp [madeCells, Value.cells, hj, Nat.mod_one]
  · rw [Array.getElem?_eq_none (by rw [size_madeCells]; omega), Array.getElem?_eq_none (by simp; omega)]
@[go_sem] theorem make_int (n : Nat) (w : World) (hn : n ≤ 1000000) : (Instr.makeSlice 28 (.int .i64 (n : Int)) (.int .i64 (n : Int))).run Try.prog w =
    .ok (.slice (some ⟨w.heap.size, 0, none⟩) n n) (w.alloc (.cells (icells (List.replicate n 0)) 3)) := by
  obtain ⟨i, h1, h2, h3, h4⟩ := info_parts (show (Try.prog.info? 3).map (fun i => (i.zero, i.size, i.bytes)) = some (some (.int .i64 0), 1, 8) from by kernel_rfl)
  have h := run_makeSlice (P := Try.prog) w 28 3 i (.int .i64 0) Try.underlying28 h1 h2 .i64 .i64 n n (by omega) (by omega) (by rw [h3]; omega) (by rw [h4]; omega) (by omega)
  rw [h, h3, Int.toNat_natCast, Nat.mul_one]
  rw [made_icells]

set_option maxRecDepth 4000 in
set_option maxHeartbeats 2000000 in
theorem half_any (A : Option Addr) (n c1 : Nat) (l : List Nat) (w : World) (hn : l.length = n) (hl : Canon l) (hr : Rd w A (l.map iv)) (hb : n ≤ 1000000) :
    Calls Try.prog 66 #[.slice A n c1] w fun e w' => ∃ v, e = .returned (.tuple #[v, .bool (dval l % 2 == 1)]) ∧ Num w' v (dval l / 2) n ∧ Ext w w' := by
  have HN := Lib.hid hn
  have HL := Lib.hid hl
  clear hl hn
  go_enter Try.func66, Try.ntmps66
  go_wp2
  go_loopw [5] (fun t wr => ∃ (i : Nat) (hs : List Nat) (x : Nat × Array Obj), i ≤ n ∧ t = .int .i64 i ∧ wr = grw (w.alloc (.cells (icells hs) 3)) x ∧ hs.length = n ∧ Small hs ∧ ∀ j, j < i → dg hs j = hd l j) (fun t _ => n - (intOf t).toNat)
  case atStart => exact ⟨0, List.replicate n 0, _, Nat.zero_le _, rfl, grw_self _, by simp, fun d hd => by rw [List.eq_of_mem_replicate hd]; decide, fun _ h => absurd h (by omega)⟩
  case round =>
    obtain ⟨i, hs, x, hi, rfl, rfl, hlen, hsm, hdg⟩ := hrel
    have HSM := Lib.hid hsm
    have HDG := Lib.hid hdg
    have HLEN := Lib.hid hlen
    have hsz : (icells hs).size = n := by rw [icells_size, hlen]
    clear hsm hdg hlen
    by_cases hlt : i < n
    · have h1 := HL.out.1.dg i
      have h2 := HL.out.1.dg (i + 1)
      have hg : (icells hs)[i]? = some (iv (dg hs i)) := icells_get hs (by rw [HLEN.out]; exact hlt)
      obtain ⟨ad, rfl, hcell⟩ := hr.at_ (k := i) (by rw [List.length_map, HN.out]; exact hlt)
      rw [List.getElem_map, ← dg_lt] at hcell
      have hall : ∀ z : Nat, (grw (w.alloc (.cells (icells hs) 3)) (z, x.2)).cell? (ad.add i) = some (iv (dg l i)) := fun z => Ext.cell ((ext_alloc _ _).trans (grw_ext _ _)) hcell
      have w1 : IntKind.i64.wrap ((i : Int) + 1) = (i : Int) + 1 := IntWalk.i64_in _ (by omega)
      have w2 : IntKind.i64.wrap ((dg l i : Int) / 2) = (dg l i : Int) / 2 := IntWalk.i64_in _ (by omega)
      obtain ⟨e, he⟩ : ∃ e, e = dg l (i + 1) % 2 := ⟨_, rfl⟩
      have hel : e < 2 := by omega
      have w3 : (dg l (i + 1) : Int).tmod 2 = (e : Int) := by rw [he]; rfl
      have HHD : Hid (hd l i = dg l i / 2 + e * 8388608) := Lib.hid (by rw [he]; rfl)
      clear he
      have w4 : IntKind.i64.wrap ((e : Int) * 8388608) = (e : Int) * 8388608 := IntWalk.i64_in _ (by omega)
      have w5 : IntKind.i64.wrap ((dg l i : Int) / 2 + (e : Int) * 8388608) = (dg l i : Int) / 2 + (e : Int) * 8388608 := IntWalk.i64_in _ (by omega)
      go_wp2
      go_region_with (go_at_call 61; with_reducible refine (digit_succ (some ad) n c1 l i _ HN.out (hr.ext ((ext_alloc _ _).trans (grw_ext _ _))) (by omega) (by omega)).mono ?_; rintro e w' ⟨rfl, rfl⟩)
      all_goals
        go_wp2
        refine ⟨⟨i + 1, hs.set i (hd l i), _, by omega, by go_num, by rw [← icells_set, HHD.out]; rfl, by rw [List.length_set, HLEN.out], HSM.out.set _ (hd_lt HL.out.1 i), fun j hj => ?_⟩, by simp [intOf]; omega⟩
        rw [dg_set (by rw [HLEN.out]; exact hlt)]
        split
        · rename_i hji; rw [hji]
        · exact HDG.out j (by omega)
    · have hin : i = n := by omega
      subst hin
      have HV := Lib.hid (half_done (hs := hs) (l := l) (by rw [HLEN.out, HN.out]) (by rw [HN.out]; exact HDG.out))
      have hd0 := HL.out.1.dg 0
      obtain ⟨e, he⟩ : ∃ e, e = dg l 0 % 2 := ⟨_, rfl⟩
      have w1 : (dg l 0 : Int).tmod 2 = (e : Int) := by rw [he]; rfl
      replace he := Lib.hid he
      have hrd : Rd (grw (w.alloc (.cells (icells hs) 3)) x) (some ⟨w.heap.size, 0, none⟩) (hs.map iv) := (rd_icells w hs _).ext (grw_ext _ _)
      go_wp2_with (first
        | (go_at_call 80; with_reducible refine (cut_any _ i i hs _ HLEN.out HSM.out hrd (by omega) (Nat.le_refl _)).mono ?_; rintro e w' ⟨r, rfl, hri, hrv, hrc, rfl⟩)
        | (go_at_call 61; with_reducible refine (digit_zero A i c1 l _ HN.out (hr.ext ((ext_alloc _ _).trans (grw_ext _ _))) (by omega)).mono ?_; rintro e w' ⟨rfl, rfl⟩))
      go_ret2
      have he2 : ((e : Int) == 1) = (dval l % 2 == 1) := by
        rw [HV.out.2, ← he.out, Bool.eq_iff_iff, beq_iff_eq, beq_iff_eq]
        omega
      refine ⟨_, by rw [← he2]; rfl, Num.mk (by rw [List.length_take, HLEN.out, Nat.min_eq_left hri]) hri (by rw [List.map_take]; exact hrd.take r) hrc (by rw [hrv, HV.out.1]) hri, (ext_alloc _ _).trans (grw_ext _ _)⟩
end Go.Proofs.Ytndohjgfjbopnaa
