/-
  Walks of a log: a record appended, all cleared.
-/
import Derived.Test.YtjnbbfhoegeppaaDoorWoN
import Derived.Test.YtjnbbfhoegeppaaDoorWoI
import Derived.Test.YtjnbbfhoegeppaaDoorWoP
import Derived.Test.YtjnbbfhoegeppaaDoorDkT
import Derived.Test.YtjnbbfhoegeppaaDoorWalC
import Derived.StillTailTactics
import Derived.Deep.CutRange
set_option linter.unusedSimpArgs false
set_option linter.unusedVariables false
namespace Go.Proofs.YtjnbbfhoegeppaaDoor
open Go.RowKit Go.Cv Go.Cv.Dk Go.Cv.Wal
/-- A log. -/
def LogAt (w : World) (g d : Nat) (s : ByteArray) : Prop := Row w g 54 [.pointer (some ⟨d, 0, none⟩), .string s]
theorem LogAt.keep {w w' : World} {g d : Nat} {s : ByteArray} {bs : List Nat} (h : LogAt w g d s) (hk : Keep bs w w') (hb : g ∉ bs) : LogAt w' g d s := Row.keep h hk hb
theorem LogAt.ext {w w' : World} {g d : Nat} {s : ByteArray} (h : LogAt w g d s) (hx : Ext w w') : LogAt w' g d s := Row.ext h hx
theorem LogAt.lt {w : World} {g d : Nat} {s : ByteArray} (h : LogAt w g d s) : g < w.heap.size := Row.lt h
theorem errV_zero : errV 0 = .nilIface := rfl
theorem frame_len (l : List UInt8) : (frame l).length = 8 + l.length := frame_length l
set_option maxRecDepth 4000 in
set_option maxHeartbeats 1600000 in
theorem lapp_any (B g d : Nat) (S : DS) (bs : List Nat) (s : ByteArray) (A : Option Addr) (n c : Nat) (b : List UInt8) (w : World) (hg : LogAt w g d s) (hgb : g ∉ bs) (h : Dsk w B d S bs) (hs : s.size ≤ 281474976710656) (hl : b.length = n) (hr : Rd w A (b.map bv)) (ha : Ap A b bs) (hm : n ≤ 140737488355328)
    (hbd : (cont S s.data.toList).length + n ≤ 70368744177664) (hL : S.l.length < 281474976710656) :
    Calls Tryd.prog 13 #[.pointer (some ⟨g, 0, none⟩), .slice A n c] w fun e w' => e = .returned (errV (lapp wrap64 S s.data.toList b).1) ∧ DN w B d bs (lapp wrap64 S s.data.toList b).2 w' := by
  refine calls_hid fun G hG => ?_
  have l0 : w.cell? ⟨g, 0, none⟩ = some (.pointer (some ⟨d, 0, none⟩)) := Row.cell hg (i := 0) (by simp)
  have l1 : w.cell? ⟨g, 1, none⟩ = some (.string s) := Row.cell hg (i := 1) (by simp)
  by_cases h1 : 2097152 < n
  · have hF := frame_long A n c w h1 hm
    have hgg : G (.returned (errV 2)) w := hG.out _ _ (by
      have e : lapp wrap64 S s.data.toList b = (2, S) := by unfold lapp; rw [if_pos (by rw [hl]; exact h1)]
      rw [e]; exact ⟨rfl, bs, h, Stp.refl _ _⟩)
    clear hG h
    go_enter Tryd.func13, Tryd.ntmps13
    go_wp2_with (go_at_call 17; (with_reducible refine hF.mono ?_); rintro e w1 ⟨rfl, rfl⟩)
    exact hgg
  · have hF := frame_any A n c b w hl hr (by omega)
    have hfl : (frame b).length = 8 + n := by rw [frame_length, hl]
    have hK := fun (w1 : World) (hx : Ext w w1) (A1 : Option Addr) (c1 : Nat) (hr1 : Rd w1 A1 ((frame b).map bv)) (ho : w1.ownsRow w.heap.size 5 1 (.slice A1 (8 + n) c1) (8 + n) ((frame b).map bv)) =>
      append_dk (w := w1.drew) s A1 (8 + n) c1 (frame b) (h.ext (hx.trans (ext_drew _))) hs hfl (hr1.ext (ext_drew _)) (.inr fun x hx2 hm2 => by
        have h3 := (ho.lt x (rowOf_own hx2)).1
        have h4 := (h.lt x hm2).2
        omega) (by omega) hL
    by_cases hz : (app wrap64 S s.data.toList (frame b)).1 = 0
    · have hgg : ∀ w', DN w B d bs (syn wrap64 (app wrap64 S s.data.toList (frame b)).2 s.data.toList).2 w' → G (.returned (errV (syn wrap64 (app wrap64 S s.data.toList (frame b)).2 s.data.toList).1)) w' := fun w' hd => hG.out _ _ (by
        have e : lapp wrap64 S s.data.toList b = syn wrap64 (app wrap64 S s.data.toList (frame b)).2 s.data.toList := by unfold lapp; rw [if_neg (by rw [hl]; exact h1), if_neg (by rw [hz]; simp)]
        rw [e]; exact ⟨rfl, hd⟩)
      rw [hz] at hK
      replace hgg := Lib.hid hgg
      generalize (app wrap64 S s.data.toList (frame b)).2 = S1 at *
      generalize hsy : syn wrap64 S1 s.data.toList = sy at *
      replace hsy := Lib.hid hsy
      replace h := Lib.hid h
      clear hG hz
      go_enter Tryd.func13, Tryd.ntmps13
      go_upto_region 4 with (go_at_call 17; (with_reducible refine hF.mono ?_); rintro e w1 ⟨A1, c1, rfl, hx1, ho1, hc1, hm1, hr1⟩; have m0 := Ext.cell hx1 l0; have m1 := Ext.cell hx1 l1)
      go_still_tail 9, (by kernel_rfl)
      change wpList _ _ _ _ _ w1.drew
      have hK1 := hK w1 hx1 A1 c1 hr1 ho1
      have hxd := hx1.trans (ext_drew w1)
      generalize w1.drew = w2 at *
      go_upto_region 7 with (go_at_call 9; (with_reducible refine hK1.mono ?_); rintro e w3 ⟨rfl, b3, hD3, hS3⟩; have n0 : w3.cell? ⟨g, 0, none⟩ = some (.pointer (some ⟨d, 0, none⟩)) := Row.cell ((hg.ext hxd).keep hS3.k hgb) (i := 0) (by simp); have n1 : w3.cell? ⟨g, 1, none⟩ = some (.string s) := Row.cell ((hg.ext hxd).keep hS3.k hgb) (i := 1) (by simp); rw [errV_zero])
      go_still_tail 8, (by kernel_rfl)
      change wpList _ _ _ _ _ w3.drew
      have hD4 := hD3.ext (ext_drew w3)
      have hS4 := hS3.ext (ext_drew w3)
      generalize w3.drew = w4 at *
      go_wp2_with (go_at_call 30; (with_reducible refine (sync_dk s hD4 hs).mono ?_); rintro e w5 ⟨rfl, hD5⟩; rw [hsy.out] at hD5 ⊢)
      obtain ⟨b5, hD5, hS5⟩ := hD5
      exact hgg.out _ ⟨b5, hD5, Stp.after hxd (hS4.trans hS5)⟩
    · have hgg : ∀ w', DN w B d bs (app wrap64 S s.data.toList (frame b)).2 w' → G (.returned (errV (app wrap64 S s.data.toList (frame b)).1)) w' := fun w' hd => hG.out _ _ (by
        have e : lapp wrap64 S s.data.toList b = app wrap64 S s.data.toList (frame b) := by unfold lapp; rw [if_neg (by rw [hl]; exact h1), if_pos hz]
        rw [e]; exact ⟨rfl, hd⟩)
      rw [errV_ne hz] at hK hgg
      replace hgg := Lib.hid hgg
      generalize (app wrap64 S s.data.toList (frame b)).2 = S1 at *
      generalize (((app wrap64 S s.data.toList (frame b)).1 : Nat) : Int) = q at *
      replace h := Lib.hid h
      clear hG hz
      go_enter Tryd.func13, Tryd.ntmps13
      go_upto_region 4 with (go_at_call 17; (with_reducible refine hF.mono ?_); rintro e w1 ⟨A1, c1, rfl, hx1, ho1, hc1, hm1, hr1⟩; have m0 := Ext.cell hx1 l0; have m1 := Ext.cell hx1 l1)
      go_still_tail 9, (by kernel_rfl)
      change wpList _ _ _ _ _ w1.drew
      have hK1 := hK w1 hx1 A1 c1 hr1 ho1
      have hxd := hx1.trans (ext_drew w1)
      generalize w1.drew = w2 at *
      go_wp2_with (go_at_call 9; (with_reducible refine hK1.mono ?_); rintro e w3 ⟨rfl, hD3⟩)
      exact hgg.out _ (hD3.after hxd)
set_option maxRecDepth 4000 in
set_option maxHeartbeats 1600000 in
theorem lclr_any (B g d : Nat) (S : DS) (bs : List Nat) (s : ByteArray) (w : World) (hg : LogAt w g d s) (h : Dsk w B d S bs) (hs : s.size ≤ 281474976710656) :
    Calls Tryd.prog 14 #[.pointer (some ⟨g, 0, none⟩)] w fun e w' => e = .returned (errV (lclr wrap64 S s.data.toList).1) ∧ DN w B d bs (lclr wrap64 S s.data.toList).2 w' := by
  refine calls_hid fun G hG => ?_
  have l0 : w.cell? ⟨g, 0, none⟩ = some (.pointer (some ⟨d, 0, none⟩)) := Row.cell hg (i := 0) (by simp)
  have l1 : w.cell? ⟨g, 1, none⟩ = some (.string s) := Row.cell hg (i := 1) (by simp)
  have hT := trunc_dk (w := w.drew) s 0 (h.ext (ext_drew _)) hs (by decide)
  have hIs : ∀ (n : Nat) (w : World), Calls Tryd.prog 20 #[errV n, .iface 34 (.int .i64 9)] w fun e w' => e = .returned (.bool (decide (n = 9 ∧ n ≠ 0))) ∧ w = w' := fun n w => is_code n 9 w
  have hgg : ∀ w', DN w B d bs (trunc wrap64 S s.data.toList 0).2 w' → G (.returned (errV (if (trunc wrap64 S s.data.toList 0).1 = 9 then 0 else (trunc wrap64 S s.data.toList 0).1))) w' := fun w' hd => hG.out _ _ ⟨rfl, hd⟩
  generalize (trunc wrap64 S s.data.toList 0).2 = S1 at *
  generalize (trunc wrap64 S s.data.toList 0).1 = q at *
  replace hgg := Lib.hid hgg
  replace h := Lib.hid h
  have hi := hIs q
  clear hG hIs
  by_cases h9 : q = 9
  · subst h9
    rw [show decide ((9 : Nat) = 9 ∧ (9 : Nat) ≠ 0) = true from rfl] at hi
    go_enter Tryd.func14, Tryd.ntmps14
    go_upto_region 1 with fail
    go_still_tail 8, (by kernel_rfl)
    change wpList _ _ _ _ _ w.drew
    have hxd := ext_drew w
    generalize w.drew = w2 at *
    go_wp2_with (first
      | (go_at_call 22; (with_reducible refine hT.mono ?_); rintro e w3 ⟨rfl, hD3⟩; replace hD3 := Lib.hid hD3)
      | (go_at_call 20; (with_reducible refine (hi w3).mono ?_); rintro e w4 ⟨rfl, rfl⟩))
    exact hgg.out _ (hD3.out.after hxd)
  · rw [decide_eq_false (fun h => h9 h.1)] at hi
    rw [if_neg h9] at hgg
    go_enter Tryd.func14, Tryd.ntmps14
    go_upto_region 1 with fail
    go_still_tail 8, (by kernel_rfl)
    change wpList _ _ _ _ _ w.drew
    have hxd := ext_drew w
    generalize w.drew = w2 at *
    go_wp2_with (first
      | (go_at_call 22; (with_reducible refine hT.mono ?_); rintro e w3 ⟨rfl, hD3⟩; replace hD3 := Lib.hid hD3)
      | (go_at_call 20; (with_reducible refine (hi w3).mono ?_); rintro e w4 ⟨rfl, rfl⟩))
    exact hgg.out _ (hD3.out.after hxd)
end Go.Proofs.YtjnbbfhoegeppaaDoor
