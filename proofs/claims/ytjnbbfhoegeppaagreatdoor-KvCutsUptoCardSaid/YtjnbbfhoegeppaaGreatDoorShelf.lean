/-
  The contract of strings.Trim, laid at this seat's program by the kit's tools (lay-shelf, lay-plain), their remarks struck.
-/
import Derived.Shelf.Strings.SlTrimAscii
import Derived.Test.YtjnbbfhoegeppaaGreatDoorProg
namespace Go.Proofs
open Go.Shelf
def Tryz.lays160_ren : Go.Shelf.Ren := ⟨fun | 160 => 81 | 232 => 95 | 231 => 94 | 227 => 96 | 234 => 98 | 233 => 97 | 236 => 100 | 235 => 99 | 228 => 107 | 271 => 110 | 151 => 109 | 197 => 108 | 120 => 114 | 152 => 113 | 260 => 112 | 137 => 115 | 119 => 116 | 224 => 117 | 225 => 118 | 217 => 119 | 266 => 120 | n => n, fun | 9 => 9 | 4 => 4 | 3 => 3 | 5 => 5 | 117 => 164 | 116 => 163 | 0 => 0 | 124 => 167 | 21 => 21 | 105 => 175 | 46 => 132 | 119 => 182 | 139 => 185 | 138 => 184 | n => n, fun | 3 => 0 | 4 => 1 | n => n⟩
theorem Tryz.lays160 : Go.Proofs.Lays.n160 Tryz.prog Tryz.lays160_ren := {
  mixed := by kernel_rfl
  f119 := Tryz.func116.trans (congrArg some (by kernel_rfl))
  f120 := Tryz.func114.trans (congrArg some (by kernel_rfl))
  f137 := Tryz.func115.trans (congrArg some (by kernel_rfl))
  f151 := Tryz.func109.trans (congrArg some (by kernel_rfl))
  f152 := Tryz.func113.trans (congrArg some (by kernel_rfl))
  f160 := Tryz.func81.trans (congrArg some (by kernel_rfl))
  f197 := Tryz.func108.trans (congrArg some (by kernel_rfl))
  f217 := Tryz.func119.trans (congrArg some (by kernel_rfl))
  f224 := Tryz.func117.trans (congrArg some (by kernel_rfl))
  f225 := Tryz.func118.trans (congrArg some (by kernel_rfl))
  f227 := Tryz.func96.trans (congrArg some (by kernel_rfl))
  f228 := Tryz.func107.trans (congrArg some (by kernel_rfl))
  f231 := Tryz.func94.trans (congrArg some (by kernel_rfl))
  f232 := Tryz.func95.trans (congrArg some (by kernel_rfl))
  f233 := Tryz.func97.trans (congrArg some (by kernel_rfl))
  f234 := Tryz.func98.trans (congrArg some (by kernel_rfl))
  f235 := Tryz.func99.trans (congrArg some (by kernel_rfl))
  f236 := Tryz.func100.trans (congrArg some (by kernel_rfl))
  f260 := Tryz.func112.trans (congrArg some (by kernel_rfl))
  f266 := Tryz.func120.trans (congrArg some (by kernel_rfl))
  f271 := Tryz.func110.trans (congrArg some (by kernel_rfl))
  t0 := Tryz.underlying0
  a0 := Tryz.isAgg0
  z0 := Tryz.sizeOf0
  v0 := Tryz.zeroValue0
  t3 := Tryz.underlying3
  a3 := Tryz.isAgg3
  z3 := Tryz.sizeOf3
  v3 := Tryz.zeroValue3
  t4 := Tryz.underlying4
  a4 := Tryz.isAgg4
  z4 := Tryz.sizeOf4
  v4 := Tryz.zeroValue4
  t5 := Tryz.underlying5
  a5 := Tryz.isAgg5
  z5 := Tryz.sizeOf5
  v5 := Tryz.zeroValue5
  t9 := Tryz.underlying9
  a9 := Tryz.isAgg9
  z9 := Tryz.sizeOf9
  v9 := Tryz.zeroValue9
  t21 := Tryz.underlying21
  a21 := Tryz.isAgg21
  z21 := Tryz.sizeOf21
  v21 := Tryz.zeroValue21
  t46 := Tryz.underlying132
  a46 := Tryz.isAgg132
  z46 := Tryz.sizeOf132
  v46 := Tryz.zeroValue132
  t105 := Tryz.underlying175
  a105 := Tryz.isAgg175
  z105 := Tryz.sizeOf175
  v105 := Tryz.zeroValue175
  t116 := Tryz.underlying163
  a116 := Tryz.isAgg163
  z116 := Tryz.sizeOf163
  t117 := Tryz.underlying164
  a117 := Tryz.isAgg164
  z117 := Tryz.sizeOf164
  v117 := Tryz.zeroValue164
  t119 := Tryz.underlying182
  a119 := Tryz.isAgg182
  z119 := Tryz.sizeOf182
  t124 := Tryz.underlying167
  a124 := Tryz.isAgg167
  z124 := Tryz.sizeOf167
  v124 := Tryz.zeroValue167
  t138 := Tryz.underlying184
  a138 := Tryz.isAgg184
  z138 := Tryz.sizeOf184
  v138 := Tryz.zeroValue184
  t139 := Tryz.underlying185
  a139 := Tryz.isAgg185
  z139 := Tryz.sizeOf185
  v139 := Tryz.zeroValue185
  g3 := by kernel_rfl
  g4 := by kernel_rfl }

open Go.RowKit in
theorem Tryz.strings_Trim (s cutset : ByteArray) (w : World) (hs : s.size ≤ 9223372036854775807) (hcs : cutset.size < 4294967281)
    (hascii : ∀ (j : Nat) b, cutset.data.toList[j]? = some b → b.toNat < 128) :
    Calls Tryz.prog 81 #[.string s, .string cutset] w fun e w' => e = .returned (.string ⟨(Lib.trimS s.data.toList cutset.data.toList).toArray⟩) ∧ Below w.heap.size w w' :=
  Any.strings_Trim_laid Tryz.lays160 (by kernel_rfl) s cutset w hs hcs hascii
end Go.Proofs
