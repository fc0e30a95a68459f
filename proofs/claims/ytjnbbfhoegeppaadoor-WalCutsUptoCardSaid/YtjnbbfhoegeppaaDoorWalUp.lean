/-
  The walk of the document's examples at the head of all statements of the layer wal.
-/
import Derived.Test.YtjnbbfhoegeppaaDoorWalC
import Derived.Lib.SlBytesConst
set_option linter.unusedSimpArgs false
set_option linter.unusedVariables false
namespace Go.Proofs.YtjnbbfhoegeppaaDoor
open Go.RowKit Go.Cv Go.Cv.Wal

def nine : List UInt8 := [0, 0, 0, 0, 28, 223, 68, 33, 1]
def digits : List UInt8 := [49, 50, 51, 52, 53, 54, 55, 56, 57]
theorem frame_nil : frame [] = [0, 0, 0, 0, 28, 223, 68, 33] := by decide +kernel
theorem check_digits : check digits = 3421780262 := by decide +kernel
theorem scans_nine : Scans nine [[]] 8 := ⟨by decide, by decide +kernel, by simp, by decide +kernel⟩

set_option maxHeartbeats 400000 in
theorem up_any (w : World) : Calls Tryd.prog 5 #[] w fun e w' => e = .returned (.bool true) ∧ Ext w w' := by
  have hcd : (check digits == 3421780262) = true := by rw [check_digits]; rfl
  have kc := fun (w : World) (C : Array Value) (n c : Nat) => Lib.run_convert_bytes_const (P := Tryd.prog) w 22 5 C n c Tryd.underlying22 Tryd.underlying5
  go_enter Tryd.func5, Tryd.ntmps5
  go_wp2_with fail
  refine (frame_any none 0 0 [] w rfl Rd.nil_ (by omega)).mono ?_
  rintro e w1 ⟨A1, c1, rfl, hx1, _, _, _, hr1⟩
  rw [frame_nil] at hr1
  go_wp2_with fail
  refine (scan_any _ 9 9 nine _ rfl (by omega) ?_ (by omega)).mono ?_
  · exact Rd.of_cells (World.news_of_block (heap_alloc_new w1 _))
  rintro e w2 ⟨A2, c2, vs, R, u, hs, rfl, hx2, _, _, _, _, _⟩
  obtain ⟨rfl, rfl⟩ := Scans.unique hs scans_nine
  clear hs
  have hx12 : Ext w w2 := (hx1.trans (ext_alloc w1 _)).trans hx2
  replace hr1 := (hr1.ext (ext_alloc w1 _)).ext hx2
  go_wp2_with fail
  refine (check_any _ 9 9 digits _ rfl ?_ (by omega)).mono ?_
  · exact Rd.of_cells (World.news_of_block (heap_alloc_new w2 _))
  rintro e w3 ⟨rfl, rfl⟩
  replace hr1 := hr1.ext (ext_alloc w2 (.cells #[Value.int .u8 49, Value.int .u8 50, Value.int .u8 51, Value.int .u8 52, Value.int .u8 53, Value.int .u8 54, Value.int .u8 55, Value.int .u8 56, Value.int .u8 57] 5 (9, 10)))
  have hx3 := hx12.trans (ext_alloc w2 (.cells #[Value.int .u8 49, Value.int .u8 50, Value.int .u8 51, Value.int .u8 52, Value.int .u8 53, Value.int .u8 54, Value.int .u8 55, Value.int .u8 56, Value.int .u8 57] 5 (9, 10)))
  have hcv := run_convert_rd (P := Tryd.prog) _ 22 9 5 Tryd.underlying22 Tryd.underlying5 Tryd.underlying9 A1 8 c1 [0, 0, 0, 0, 28, 223, 68, 33] rfl hr1
  go_wp2
  go_ret
  exact ⟨rfl, hx3⟩
end Go.Proofs.YtjnbbfhoegeppaaDoor
