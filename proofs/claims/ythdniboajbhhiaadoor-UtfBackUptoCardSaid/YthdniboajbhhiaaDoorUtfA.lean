/-
  Walks of the layer utf: where a text is no UTF-8.
-/
import Derived.Test.YthdniboajbhhiaaDoorShelf
import Derived.Test.YthdniboajbhhiaaDoorMore
import Derived.Lib.OthersKept
import Derived.Lib.RuneCount
import Derived.Shelf.Strings.MapAny
set_option linter.unusedSimpArgs false
set_option linter.unusedVariables false
namespace Go.Cv.Utf
open Go.RowKit
/-- From a place on: where a text is no UTF-8. -/
def badFrom (s : ByteArray) : Nat → Nat → Int
  | 0, _ => -1
  | f + 1, pos => if pos < s.size then (if (Utf8.decode s pos).1 = 65533 ∧ (Utf8.decode s pos).2 ≤ 1 then (pos : Int) else badFrom s f (pos + (Utf8.decode s pos).2)) else -1
def badAt (s : ByteArray) : Int := badFrom s s.size 0
theorem badFrom_end (s : ByteArray) (f pos : Nat) (h : ¬ pos < s.size) : badFrom s f pos = -1 := by
  cases f with
  | zero => rfl
  | succ f => simp only [badFrom]; rw [if_neg h]
/-- A loop over a string stands at a place. -/
structure ItIs (w wr : World) (s : ByteArray) (pos : Nat) : Prop where
  it : wr.heap[w.heap.size]? = some (.stringIter s pos)
  ext : Ext w wr
theorem ItIs.start (w : World) (s : ByteArray) : ItIs w (w.iter s 0) s 0 := ⟨World.iter_heap w s 0, ext_alloc w _⟩
theorem ItIs.move {w wr : World} {s : ByteArray} {pos : Nat} (h : ItIs w wr s pos) (p : Nat) : ItIs w (wr.iterAt w.heap.size s p) s p :=
  ⟨Lib.iterAt_heap _ _ _ _ _ h.it, Lib.below_iterAt h.ext (Nat.le_refl _) _ _⟩
theorem ItIs.grow {w wr w' : World} {s : ByteArray} {pos : Nat} (h : ItIs w wr s pos) (hx : Ext wr w') : ItIs w w' s pos :=
  ⟨(hx.block _ (Array.getElem?_eq_some_iff.1 h.it).1).trans h.it, h.ext.trans hx⟩
theorem ItIs.pos_ {w wr : World} {s : ByteArray} {pos : Nat} (h : ItIs w wr s pos) : wr.iterPos w.heap.size = pos := by
  unfold World.iterPos; rw [h.it]
theorem ext_below {w w' : World} (h : Below w.heap.size w w') : Ext w w' := h
theorem dec_pos (s : ByteArray) (pos : Nat) (h : pos < s.size) : 1 ≤ (Utf8.decode s pos).2 := Lib.decode_width_pos s pos h
end Go.Cv.Utf
namespace Go.Proofs.YthdniboajbhhiaaDoor
open Go.RowKit Go.Cv Go.Cv.Utf

set_option maxRecDepth 8000 in
set_option maxHeartbeats 2000000 in
theorem bad_any (s : ByteArray) (w : World) (hT : Lib.Utf8Tabs 2 3 w) :
    Calls Tryd.prog 16 #[.string s] w fun e w' => e = .returned (.int .i64 (badAt s)) ∧ Ext w w' := by
  go_enter Tryd.func16, Tryd.ntmps16
  go_wp2
  go_loopw [3] (fun _ wr => ∃ (pos b : Nat), ItIs w wr s pos ∧ badFrom s b pos = badAt s ∧ s.size ≤ pos + b) (fun _ wr => s.size - wr.iterPos w.heap.size)
  case atStart => exact ⟨0, s.size, ItIs.start w s, rfl, by omega⟩
  case round =>
    obtain ⟨pos, b, hI, hb, hsz⟩ := hrel
    have hI2 := Lib.hid hI
    by_cases hp : pos < s.size
    · have hnx := fun ty => Lib.run_next_any_at (P := Tryd.prog) wr w.heap.size s pos ty hI.it hp
      have hw1 := dec_pos s pos hp
      obtain ⟨b, rfl⟩ : ∃ b', b = b' + 1 := ⟨b - 1, by omega⟩
      simp only [badFrom, if_pos hp] at hb
      replace hb := Lib.hid hb
      have hdg := Lib.hid (Lib.decodeGo_extract s pos hp)
      have hI3 := hI2.out.move (pos + (Utf8.decode s pos).2)
      have hdec := Tryd.utf8_DecodeRuneInString (s.extract pos s.size) (wr.iterAt w.heap.size s (pos + (Utf8.decode s pos).2)) (Utf8Tabs_below hT (hI3.ext))
      rw [hdg.out] at hdec
      have hpl := Lib.hid (hI2.out.pos_)
      have hI4 := Lib.hid hI3
      clear hI hI3
      generalize (Utf8.decode s pos).1 = r at *
      generalize (Utf8.decode s pos).2 = k at *
      by_cases h1 : r = 65533
      · subst h1
        by_cases h2 : k ≤ 1
        · have hb2 : Hid ((pos : Int) = badAt s) := Lib.hid (by have := hb.out; rwa [if_pos ⟨rfl, h2⟩] at this)
          have h2' : (k : Int) ≤ 1 := by omega
          go_wp2_with (go_at_call 28; with_reducible refine hdec.mono ?_; rintro e w' ⟨rfl, hx⟩)
          go_ret
          exact ⟨by rw [hb2.out]; rfl, hI4.out.ext.trans hx⟩
        · have hb2 : Hid (badFrom s b (pos + k) = badAt s) := Lib.hid (by have := hb.out; rwa [if_neg fun h => h2 h.2] at this)
          have h2' : ¬ (k : Int) ≤ 1 := by omega
          go_wp2_with (go_at_call 28; with_reducible refine hdec.mono ?_; rintro e w' ⟨rfl, hx⟩)
          refine ⟨⟨pos + k, b, hI4.out.grow hx, hb2.out, by omega⟩, ?_⟩
          rw [(hI4.out.grow hx).pos_, hpl.out]
          omega
      · have hb2 : Hid (badFrom s b (pos + k) = badAt s) := Lib.hid (by have := hb.out; rwa [if_neg fun h => h1 h.1] at this)
        have h1' : ¬ (r : Int) = 65533 := by omega
        go_wp2
        refine ⟨⟨pos + k, b, hI4.out, hb2.out, by omega⟩, ?_⟩
        rw [hI4.out.pos_, hpl.out]
        omega
    · have hnx := fun ty => Lib.run_next_end_at (P := Tryd.prog) wr w.heap.size s pos ty hI.it hp
      have hb2 : Hid (badAt s = -1) := Lib.hid (by rw [← hb, badFrom_end _ _ _ hp])
      clear hI
      go_wp2
      go_ret
      exact ⟨by rw [hb2.out]; rfl, hI2.out.ext⟩
end Go.Proofs.YthdniboajbhhiaaDoor
