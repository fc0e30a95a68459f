/-
  Walks of the document's answer: nineteen times a number.
-/
import Derived.Test.YtndohjgfjbopnaaRefG
set_option linter.unusedSimpArgs false
set_option linter.unusedVariables false
namespace Go.Cv.Dig
open Go.RowKit
/-- What stands behind i digits of the product with 19. -/
structure NineInv (l os : List Nat) (i : Nat) : Prop where
  len : os.length = l.length + 1
  small : Small os
  val : dval os = 19 * lo l i
  zero : ∀ j, i < j → dg os j = 0
theorem dval_replicate (n : Nat) : dval (List.replicate n 0) = 0 := dval_zeros fun d hd => List.eq_of_mem_replicate hd
theorem NineInv.start (l : List Nat) : NineInv l (List.replicate (l.length + 1) 0) 0 := by
  refine ⟨by simp, fun d hd => by rw [List.eq_of_mem_replicate hd]; decide, by rw [dval_replicate, lo_zero], fun j _ => ?_⟩
  unfold dg
  rw [List.getD_eq_getElem?_getD, List.getElem?_replicate]
  split <;> rfl
theorem NineInv.step {l os : List Nat} {i : Nat} (hl : Small l) (hi : i < l.length) (h : NineInv l os i) :
    NineInv l ((os.set i ((dg os i + dg l i * 19) % 16777216)).set (i + 1) ((dg os i + dg l i * 19) / 16777216)) (i + 1) := by
  have h1 := hl.dg i
  have h2 := h.small.dg i
  have hlen := h.len
  have ha : dval (os.set i ((dg os i + dg l i * 19) % 16777216)) + 16777216 ^ i * dg os i = dval os + 16777216 ^ i * ((dg os i + dg l i * 19) % 16777216) := dval_set (by omega) _
  have hz : dg (os.set i ((dg os i + dg l i * 19) % 16777216)) (i + 1) = 0 := by
    rw [dg_set (by omega), if_neg (by omega)]
    exact h.zero _ (by omega)
  have hb := dval_set (l := os.set i ((dg os i + dg l i * 19) % 16777216)) (i := i + 1) (by rw [List.length_set]; omega) ((dg os i + dg l i * 19) / 16777216)
  rw [hz, Nat.mul_zero, Nat.add_zero] at hb
  refine ⟨by rw [List.length_set, List.length_set, hlen], (h.small.set _ (Nat.mod_lt _ (by decide))).set _ (by omega), ?_, fun j hj => ?_⟩
  · rw [hb, lo_succ, Nat.mul_add, ← h.val, Nat.pow_succ]
    have e := Nat.mod_add_div (dg os i + dg l i * 19) 16777216
    have e2 : 16777216 ^ i * ((dg os i + dg l i * 19) % 16777216 + 16777216 * ((dg os i + dg l i * 19) / 16777216)) = 16777216 ^ i * (dg os i + dg l i * 19) := by rw [e]
    rw [Nat.mul_add, ← Nat.mul_assoc, Nat.mul_add] at e2
    have e3 : 19 * (16777216 ^ i * dg l i) = 16777216 ^ i * (dg l i * 19) := by rw [Nat.mul_left_comm, Nat.mul_comm 19]
    omega
  · rw [dg_set (by rw [List.length_set]; omega), if_neg (by omega), dg_set (by omega), if_neg (by omega)]
    exact h.zero _ (by omega)
end Go.Cv.Dig
namespace Go.Proofs.Ytndohjgfjbopnaa
open Go.RowKit Go.Cv Go.Cv.Dig
@[go_sem] theorem make_int1 (n : Nat) (w : World) (hn : n ≤ 999999) : (Instr.makeSlice 28 (.int .i64 ((n : Int) + 1)) (.int .i64 ((n : Int) + 1))).run Try.prog w =
    .ok (.slice (some ⟨w.heap.size, 0, none⟩) (n + 1) (n + 1)) (w.alloc (.cells (icells (List.replicate (n + 1) 0)) 3)) := make_int (n + 1) w (by omega)

set_option maxRecDepth 4000 in
set_option maxHeartbeats 2000000 in
theorem nine_any (A : Option Addr) (bd : Addr) (n c1 c2 : Nat) (l : List Nat) (w : World) (hn : l.length = n) (hl : Canon l) (hr : Rd w A (l.map iv)) (hr2 : w.cell? bd = some (iv 19)) (hb : n ≤ 999999) :
    Calls Try.prog 81 #[.slice A n c1, .slice (some bd) 1 c2] w fun e w' => ∃ v, e = .returned v ∧ Num w' v (19 * dval l) (n + 1) ∧ Ext w w' := by
  have HN := Lib.hid hn
  have HL := Lib.hid hl
  clear hl hn
  go_enter Try.func81, Try.ntmps81
  go_wp2
  go_loopw [6, 7, 8, 9] (fun t _ _ _ wr => ∃ (i : Nat) (os : List Nat) (x : Nat × Array Obj), i ≤ n ∧ t = .int .i64 i ∧ wr = grw (w.alloc (.cells (icells os) 3)) x ∧ Hid (NineInv l os i)) (fun t _ _ _ _ => n - (intOf t).toNat)
  case atStart => exact ⟨0, List.replicate (n + 1) 0, _, Nat.zero_le _, rfl, grw_self _, Lib.hid (HN.out ▸ NineInv.start l)⟩
  case round =>
    obtain ⟨i, os, x, hi, rfl, rfl, HP⟩ := hrel
    have hlen : (icells os).size = n + 1 := by rw [icells_size, HP.out.len, HN.out]
    by_cases hlt : i < n
    · have h1 := HL.out.1.dg i
      have h2 := HP.out.small.dg i
      have hg : (icells os)[i]? = some (iv (dg os i)) := icells_get os (by rw [HP.out.len, HN.out]; omega)
      have hg2 : ∀ h : i < (icells os).size, (icells os)[i]'h = iv (dg os i) := fun h => by rw [Array.getElem?_eq_getElem h] at hg; exact Option.some.inj hg
      have HS := Lib.hid (HP.out.step HL.out.1 (by rw [HN.out]; exact hlt))
      obtain ⟨ad, rfl, hcell⟩ := hr.at_ (k := i) (by rw [List.length_map, HN.out]; exact hlt)
      rw [List.getElem_map, ← dg_lt] at hcell
      have hall : ∀ z : Nat, (grw (w.alloc (.cells (icells os) 3)) (z, x.2)).cell? (ad.add i) = some (iv (dg l i)) := fun z => Ext.cell ((ext_alloc _ _).trans (grw_ext _ _)) hcell
      have hbll : ∀ z : Nat, (grw (w.alloc (.cells (icells os) 3)) (z, x.2)).cell? bd = some (iv 19) := fun z => Ext.cell ((ext_alloc _ _).trans (grw_ext _ _)) hr2
      have w1 : IntKind.i64.wrap ((dg l i : Int) * 19) = (dg l i : Int) * 19 := IntWalk.i64_in _ (by omega)
      have w2 : IntKind.i64.wrap ((dg os i : Int) + (dg l i : Int) * 19) = (dg os i : Int) + (dg l i : Int) * 19 := IntWalk.i64_in _ (by omega)
      go_wp2
      refine wp_loop_rounds 2 ?_
      rw [rounds_succ]
      go_wp2
      go_region
      all_goals
        go_wp2
        rw [rounds_succ]
        go_wp2
        refine ⟨⟨i + 1, (os.set i ((dg os i + dg l i * 19) % 16777216)).set (i + 1) ((dg os i + dg l i * 19) / 16777216), _, by omega, by go_num, by rw [← icells_set, ← icells_set]; rfl, HS⟩, by simp [intOf]; omega⟩
    · have hin : i = n := by omega
      subst hin
      have HV : Hid (dval os = 19 * dval l) := Lib.hid (by rw [HP.out.val, lo_all (Nat.le_of_eq HN.out)])
      have hrd : Rd (grw (w.alloc (.cells (icells os) 3)) x) (some ⟨w.heap.size, 0, none⟩) (os.map iv) := (rd_icells w os _).ext (grw_ext _ _)
      go_wp2_with (go_at_call 80; with_reducible refine (cut_any _ (i + 1) (i + 1) os _ (by rw [HP.out.len, HN.out]) HP.out.small hrd (by omega) (Nat.le_refl _)).mono ?_; rintro e w' ⟨r, rfl, hri, hrv, hrc, rfl⟩)
      go_ret
      exact ⟨_, rfl, Num.mk (by rw [List.length_take, HP.out.len, HN.out, Nat.min_eq_left hri]) hri (by rw [List.map_take]; exact hrd.take r) hrc (by rw [hrv, HV.out]) hri, (ext_alloc _ _).trans (grw_ext _ _)⟩
end Go.Proofs.Ytndohjgfjbopnaa
