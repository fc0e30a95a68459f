/-
  A script's requests, any of them.
-/
import Derived.Test.YtkgnaabmcboffaaDoorDvV
set_option linter.unusedSimpArgs false
set_option linter.unusedVariables false
namespace Go.Proofs.YtkgnaabmcboffaaDoor
open Go.RowKit Go.Cv Go.Cv.Dk
/-- A request. -/
structure OpV where
  k : Int
  x : ByteArray
  y : ByteArray
  n : Int
  A : Option Addr
  m : Nat
  cb : Nat
  b : List UInt8
def OpV.cells (o : OpV) : List Value := [.int .i64 o.k, .string o.x, .string o.y, .int .i64 o.n, .slice o.A o.m o.cb]
structure OpV.At (w : World) (o : OpV) : Prop where
  k : -9223372036854775808 ≤ o.k ∧ o.k ≤ 9223372036854775807
  x : o.x.size ≤ 1048576
  y : o.y.size ≤ 1048576
  n : -9223372036854775808 ≤ o.n ∧ o.n ≤ 9223372036854775807
  m : o.b.length = o.m
  l : o.m ≤ 1048576
  rd : Rd w o.A (o.b.map bv)
theorem OpV.At.ext {w w' : World} {o : OpV} (h : o.At w) (hx : Ext w w') : o.At w' := ⟨h.k, h.x, h.y, h.n, h.m, h.l, h.rd.ext hx⟩
/-- What it makes of a disk. -/
def opS (S : DS) (o : OpV) : DS :=
  if pickI o.k 10 = 0 then (app wrap64 S o.x.data.toList o.b).2 else if pickI o.k 10 = 1 then (app wrap64 S o.x.data.toList o.b).2 else if pickI o.k 10 = 2 then (syn wrap64 S o.x.data.toList).2 else
  if pickI o.k 10 = 3 then (trunc wrap64 S o.x.data.toList o.n).2 else if pickI o.k 10 = 4 then (ren wrap64 S o.x.data.toList o.y.data.toList).2 else if pickI o.k 10 = 5 then (rem wrap64 S o.x.data.toList).2 else
  if pickI o.k 10 = 6 then (cutd S o.n).2 else if pickI o.k 10 = 7 then Dk.pow S o.n else S
theorem cont_used (S : DS) (x : List UInt8) : (cont S x).length ≤ used S.l := by
  unfold cont
  rcases hq : Dk.get S.l x with _ | f
  · simp
  · exact used_mem (get_some hq).1
theorem step_all (B d r : Nat) (S : DS) (bs cs : List Nat) (o : OpV) (w : World) (h : Two w B d r S S bs cs) (ho : o.At w) (hap : Ap o.A o.b (bs ++ cs)) (hL : S.l.length < 1099511627776) (hB : B ≤ w.heap.size) (hu : used S.l ≤ 35184372088832) :
    Calls Tryd.prog 15 #[.pointer (some ⟨d, 0, none⟩), .pointer (some ⟨r, 0, none⟩), .agg #[.int .i64 o.k, .string o.x, .string o.y, .int .i64 o.n, .slice o.A o.m o.cb]] w (Stepped w B d r bs cs (opS S o)) := by
  have hb := pickI_bd (c := o.k) (m := 10) (by omega)
  have hx := ho.x
  have hy := ho.y
  have hn := ho.n
  have hl := ho.l
  have hc := cont_used S o.x.data.toList
  unfold opS
  by_cases h0 : pickI o.k 10 = 0
  · rw [if_pos h0]; exact step_app0 B d r S bs cs o.k o.x o.y o.n o.A o.m o.cb o.b w h ho.k h0 (by omega) hL hB ho.m ho.rd hap (by omega)
  rw [if_neg h0]
  by_cases h1 : pickI o.k 10 = 1
  · rw [if_pos h1]; exact step_app1 B d r S bs cs o.k o.x o.y o.n o.A o.m o.cb o.b w h ho.k h1 (by omega) hL hB ho.m ho.rd hap (by omega)
  rw [if_neg h1]
  by_cases h2 : pickI o.k 10 = 2
  · rw [if_pos h2]; exact step_sync B d r S bs cs o.k o.x o.y o.n o.A o.m o.cb w h ho.k h2 (by omega) hL hB
  rw [if_neg h2]
  by_cases h3 : pickI o.k 10 = 3
  · rw [if_pos h3]; exact step_trunc B d r S bs cs o.k o.x o.y o.n o.A o.m o.cb w h ho.k h3 (by omega) hL hB hn.2
  rw [if_neg h3]
  by_cases h4 : pickI o.k 10 = 4
  · rw [if_pos h4]; exact step_ren B d r S bs cs o.k o.x o.y o.n o.A o.m o.cb w h ho.k h4 (by omega) hL hB (by omega)
  rw [if_neg h4]
  by_cases h5 : pickI o.k 10 = 5
  · rw [if_pos h5]; exact step_rem B d r S bs cs o.k o.x o.y o.n o.A o.m o.cb w h ho.k h5 (by omega) hL hB
  rw [if_neg h5]
  by_cases h6 : pickI o.k 10 = 6
  · rw [if_pos h6]; exact step_cut B d r S bs cs o.k o.x o.y o.n o.A o.m o.cb w h ho.k h6 (by omega) hL hB hn.2
  rw [if_neg h6]
  by_cases h7 : pickI o.k 10 = 7
  · rw [if_pos h7]; exact step_pow B d r S bs cs o.k o.x o.y o.n o.A o.m o.cb w h ho.k h7 (by omega) hL hB hn
  rw [if_neg h7]
  by_cases h8 : pickI o.k 10 = 8
  · exact step_read B d r S bs cs o.k o.x o.y o.n o.A o.m o.cb w h ho.k h8 (by omega) hL hB
  · exact step_none B d r S bs cs o.k o.x o.y o.n o.A o.m o.cb w h ho.k (by omega) (by omega) hL hB
end Go.Proofs.YtkgnaabmcboffaaDoor
