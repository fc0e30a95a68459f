/-
  The document's answer of layer 5: its tables, its two kinds, Sum256 and Sum512 walked.
-/
import Derived.Test.YtnlphndfnnmdaaaDoorHashQ
import Derived.Test.YtnlphndfnnmdaaaDoorHashR
import Derived.Test.YtnlphndfnnmdaaaDoorHashG
import Derived.Laws.Rows
set_option linter.unusedSimpArgs false
set_option linter.unusedVariables false
namespace Go.Cv.Hash
open Go.RowKit
def up32 (s : St32) : St64 := ⟨s.a.toUInt64, s.b.toUInt64, s.c.toUInt64, s.d.toUInt64, s.e.toUInt64, s.f.toUInt64, s.g.toUInt64, s.h.toUInt64⟩
/-- The two kinds. -/
def KD32 : Kd := ⟨32, 4294967295, 7, 18, 3, 17, 19, 10, 2, 13, 22, 6, 11, 25, K32.map UInt32.toUInt64⟩
def KD64 : Kd := ⟨64, 18446744073709551615, 1, 8, 7, 19, 61, 6, 28, 34, 39, 14, 18, 41, K64⟩
theorem KD32.ok : KD32.Ok := by constructor <;> decide
theorem KD64.ok : KD64.Ok := by constructor <;> decide
end Go.Cv.Hash
namespace Go.Proofs.YtnlphndfnnmdaaaDoor
open Go.RowKit Go.Cv Go.Cv.Hash Go.Cv.Dig
theorem row_other {w : World} {b k : Nat} {T U : TypeId} {cs old : List Value} {new : Array Value} (hk : Row w k T cs) (hb : Row w b U old) (hne : T ≠ U) : Row (w.setRow b new) k T cs := by
  unfold Row at *
  rw [setRow_other w b k new (fun e => by
    subst e
    rw [hk] at hb
    injection hb with hb
    injection hb with _ hb
    exact hne hb)]
  exact hk
theorem info53 : (Tryd.prog.info? 53).map (·.size) = some 8 := by kernel_rfl

theorem lit_short : ([.int .u64 1116352408, .int .u64 1899447441, .int .u64 3049323471, .int .u64 3921009573, .int .u64 961987163, .int .u64 1508970993, .int .u64 2453635748, .int .u64 2870763221, .int .u64 3624381080, .int .u64 310598401, .int .u64 607225278, .int .u64 1426881987, .int .u64 1925078388, .int .u64 2162078206, .int .u64 2614888103, .int .u64 3248222580, .int .u64 3835390401, .int .u64 4022224774, .int .u64 264347078, .int .u64 604807628, .int .u64 770255983, .int .u64 1249150122, .int .u64 1555081692, .int .u64 1996064986, .int .u64 2554220882, .int .u64 2821834349, .int .u64 2952996808, .int .u64 3210313671, .int .u64 3336571891, .int .u64 3584528711, .int .u64 113926993, .int .u64 338241895, .int .u64 666307205, .int .u64 773529912, .int .u64 1294757372, .int .u64 1396182291, .int .u64 1695183700, .int .u64 1986661051, .int .u64 2177026350, .int .u64 2456956037, .int .u64 2730485921, .int .u64 2820302411, .int .u64 3259730800, .int .u64 3345764771, .int .u64 3516065817, .int .u64 3600352804, .int .u64 4094571909, .int .u64 275423344, .int .u64 430227734, .int .u64 506948616, .int .u64 659060556, .int .u64 883997877, .int .u64 958139571, .int .u64 1322822218, .int .u64 1537002063, .int .u64 1747873779, .int .u64 1955562222, .int .u64 2024104815, .int .u64 2227730452, .int .u64 2361852424, .int .u64 2428436474, .int .u64 2756734187, .int .u64 3204031479, .int .u64 3329325298] : List Value) = (K32.map UInt32.toUInt64).map wv64 := by kernel_rfl
set_option maxRecDepth 20000 in
set_option maxHeartbeats 4000000 in
theorem short_any (w : World) :
    Calls Tryd.prog 22 #[] w fun e w' => ∃ b, e = .returned (.slice (some ⟨b, 0, none⟩) 64 64) ∧ Row w' b 46 ((K32.map UInt32.toUInt64).map wv64) ∧ Ext w w' := by
  rw [← lit_short]
  go_enter Tryd.func22, Tryd.ntmps22
  go_wp2
  go_ret
  exact ⟨_, rfl, Row.alloc w [.int .u64 1116352408, .int .u64 1899447441, .int .u64 3049323471, .int .u64 3921009573, .int .u64 961987163, .int .u64 1508970993, .int .u64 2453635748, .int .u64 2870763221, .int .u64 3624381080, .int .u64 310598401, .int .u64 607225278, .int .u64 1426881987, .int .u64 1925078388, .int .u64 2162078206, .int .u64 2614888103, .int .u64 3248222580, .int .u64 3835390401, .int .u64 4022224774, .int .u64 264347078, .int .u64 604807628, .int .u64 770255983, .int .u64 1249150122, .int .u64 1555081692, .int .u64 1996064986, .int .u64 2554220882, .int .u64 2821834349, .int .u64 2952996808, .int .u64 3210313671, .int .u64 3336571891, .int .u64 3584528711, .int .u64 113926993, .int .u64 338241895, .int .u64 666307205, .int .u64 773529912, .int .u64 1294757372, .int .u64 1396182291, .int .u64 1695183700, .int .u64 1986661051, .int .u64 2177026350, .int .u64 2456956037, .int .u64 2730485921, .int .u64 2820302411, .int .u64 3259730800, .int .u64 3345764771, .int .u64 3516065817, .int .u64 3600352804, .int .u64 4094571909, .int .u64 275423344, .int .u64 430227734, .int .u64 506948616, .int .u64 659060556, .int .u64 883997877, .int .u64 958139571, .int .u64 1322822218, .int .u64 1537002063, .int .u64 1747873779, .int .u64 1955562222, .int .u64 2024104815, .int .u64 2227730452, .int .u64 2361852424, .int .u64 2428436474, .int .u64 2756734187, .int .u64 3204031479, .int .u64 3329325298] _, ext_alloc _ _⟩

theorem lit_shortb : ([.int .u64 1779033703, .int .u64 3144134277, .int .u64 1013904242, .int .u64 2773480762, .int .u64 1359893119, .int .u64 2600822924, .int .u64 528734635, .int .u64 1541459225] : List Value) = ((up32 B32).l).map wv64 := by kernel_rfl
set_option maxRecDepth 20000 in
set_option maxHeartbeats 4000000 in
theorem shortb_any (w : World) :
    Calls Tryd.prog 23 #[] w fun e w' => ∃ b, e = .returned (.slice (some ⟨b, 0, none⟩) 8 8) ∧ Row w' b 46 (((up32 B32).l).map wv64) ∧ Ext w w' := by
  rw [← lit_shortb]
  go_enter Tryd.func23, Tryd.ntmps23
  go_wp2
  go_ret
  exact ⟨_, rfl, Row.alloc w [.int .u64 1779033703, .int .u64 3144134277, .int .u64 1013904242, .int .u64 2773480762, .int .u64 1359893119, .int .u64 2600822924, .int .u64 528734635, .int .u64 1541459225] _, ext_alloc _ _⟩

theorem lit_long : ([.int .u64 4794697086780616226, .int .u64 8158064640168781261, .int .u64 13096744586834688815, .int .u64 16840607885511220156, .int .u64 4131703408338449720, .int .u64 6480981068601479193, .int .u64 10538285296894168987, .int .u64 12329834152419229976, .int .u64 15566598209576043074, .int .u64 1334009975649890238, .int .u64 2608012711638119052, .int .u64 6128411473006802146, .int .u64 8268148722764581231, .int .u64 9286055187155687089, .int .u64 11230858885718282805, .int .u64 13951009754708518548, .int .u64 16472876342353939154, .int .u64 17275323862435702243, .int .u64 1135362057144423861, .int .u64 2597628984639134821, .int .u64 3308224258029322869, .int .u64 5365058923640841347, .int .u64 6679025012923562964, .int .u64 8573033837759648693, .int .u64 10970295158949994411, .int .u64 12119686244451234320, .int .u64 12683024718118986047, .int .u64 13788192230050041572, .int .u64 14330467153632333762, .int .u64 15395433587784984357, .int .u64 489312712824947311, .int .u64 1452737877330783856, .int .u64 2861767655752347644, .int .u64 3322285676063803686, .int .u64 5560940570517711597, .int .u64 5996557281743188959, .int .u64 7280758554555802590, .int .u64 8532644243296465576, .int .u64 9350256976987008742, .int .u64 10552545826968843579, .int .u64 11727347734174303076, .int .u64 12113106623233404929, .int .u64 14000437183269869457, .int .u64 14369950271660146224, .int .u64 15101387698204529176, .int .u64 15463397548674623760, .int .u64 17586052441742319658, .int .u64 1182934255886127544, .int .u64 1847814050463011016, .int .u64 2177327727835720531, .int .u64 2830643537854262169, .int .u64 3796741975233480872, .int .u64 4115178125766777443, .int .u64 5681478168544905931, .int .u64 6601373596472566643, .int .u64 7507060721942968483, .int .u64 8399075790359081724, .int .u64 8693463985226723168, .int .u64 9568029438360202098, .int .u64 10144078919501101548, .int .u64 10430055236837252648, .int .u64 11840083180663258601, .int .u64 13761210420658862357, .int .u64 14299343276471374635, .int .u64 14566680578165727644, .int .u64 15097957966210449927, .int .u64 16922976911328602910, .int .u64 17689382322260857208, .int .u64 500013540394364858, .int .u64 748580250866718886, .int .u64 1242879168328830382, .int .u64 1977374033974150939, .int .u64 2944078676154940804, .int .u64 3659926193048069267, .int .u64 4368137639120453308, .int .u64 4836135668995329356, .int .u64 5532061633213252278, .int .u64 6448918945643986474, .int .u64 6902733635092675308, .int .u64 7801388544844847127] : List Value) = (K64).map wv64 := by kernel_rfl
set_option maxRecDepth 20000 in
set_option maxHeartbeats 4000000 in
theorem long_any (w : World) :
    Calls Tryd.prog 25 #[] w fun e w' => ∃ b, e = .returned (.slice (some ⟨b, 0, none⟩) 80 80) ∧ Row w' b 46 ((K64).map wv64) ∧ Ext w w' := by
  rw [← lit_long]
  go_enter Tryd.func25, Tryd.ntmps25
  go_wp2
  go_ret
  exact ⟨_, rfl, Row.alloc w [.int .u64 4794697086780616226, .int .u64 8158064640168781261, .int .u64 13096744586834688815, .int .u64 16840607885511220156, .int .u64 4131703408338449720, .int .u64 6480981068601479193, .int .u64 10538285296894168987, .int .u64 12329834152419229976, .int .u64 15566598209576043074, .int .u64 1334009975649890238, .int .u64 2608012711638119052, .int .u64 6128411473006802146, .int .u64 8268148722764581231, .int .u64 9286055187155687089, .int .u64 11230858885718282805, .int .u64 13951009754708518548, .int .u64 16472876342353939154, .int .u64 17275323862435702243, .int .u64 1135362057144423861, .int .u64 2597628984639134821, .int .u64 3308224258029322869, .int .u64 5365058923640841347, .int .u64 6679025012923562964, .int .u64 8573033837759648693, .int .u64 10970295158949994411, .int .u64 12119686244451234320, .int .u64 12683024718118986047, .int .u64 13788192230050041572, .int .u64 14330467153632333762, .int .u64 15395433587784984357, .int .u64 489312712824947311, .int .u64 1452737877330783856, .int .u64 2861767655752347644, .int .u64 3322285676063803686, .int .u64 5560940570517711597, .int .u64 5996557281743188959, .int .u64 7280758554555802590, .int .u64 8532644243296465576, .int .u64 9350256976987008742, .int .u64 10552545826968843579, .int .u64 11727347734174303076, .int .u64 12113106623233404929, .int .u64 14000437183269869457, .int .u64 14369950271660146224, .int .u64 15101387698204529176, .int .u64 15463397548674623760, .int .u64 17586052441742319658, .int .u64 1182934255886127544, .int .u64 1847814050463011016, .int .u64 2177327727835720531, .int .u64 2830643537854262169, .int .u64 3796741975233480872, .int .u64 4115178125766777443, .int .u64 5681478168544905931, .int .u64 6601373596472566643, .int .u64 7507060721942968483, .int .u64 8399075790359081724, .int .u64 8693463985226723168, .int .u64 9568029438360202098, .int .u64 10144078919501101548, .int .u64 10430055236837252648, .int .u64 11840083180663258601, .int .u64 13761210420658862357, .int .u64 14299343276471374635, .int .u64 14566680578165727644, .int .u64 15097957966210449927, .int .u64 16922976911328602910, .int .u64 17689382322260857208, .int .u64 500013540394364858, .int .u64 748580250866718886, .int .u64 1242879168328830382, .int .u64 1977374033974150939, .int .u64 2944078676154940804, .int .u64 3659926193048069267, .int .u64 4368137639120453308, .int .u64 4836135668995329356, .int .u64 5532061633213252278, .int .u64 6448918945643986474, .int .u64 6902733635092675308, .int .u64 7801388544844847127] _, ext_alloc _ _⟩

theorem lit_longb : ([.int .u64 7640891576956012808, .int .u64 13503953896175478587, .int .u64 4354685564936845355, .int .u64 11912009170470909681, .int .u64 5840696475078001361, .int .u64 11170449401992604703, .int .u64 2270897969802886507, .int .u64 6620516959819538809] : List Value) = (B64.l).map wv64 := by kernel_rfl
set_option maxRecDepth 20000 in
set_option maxHeartbeats 4000000 in
theorem longb_any (w : World) :
    Calls Tryd.prog 26 #[] w fun e w' => ∃ b, e = .returned (.slice (some ⟨b, 0, none⟩) 8 8) ∧ Row w' b 46 ((B64.l).map wv64) ∧ Ext w w' := by
  rw [← lit_longb]
  go_enter Tryd.func26, Tryd.ntmps26
  go_wp2
  go_ret
  exact ⟨_, rfl, Row.alloc w [.int .u64 7640891576956012808, .int .u64 13503953896175478587, .int .u64 4354685564936845355, .int .u64 11912009170470909681, .int .u64 5840696475078001361, .int .u64 11170449401992604703, .int .u64 2270897969802886507, .int .u64 6620516959819538809] _, ext_alloc _ _⟩

theorem mask_narrow : n64 KD32.M = 4294967295 := by kernel_rfl
set_option maxRecDepth 20000 in
set_option maxHeartbeats 4000000 in
theorem narrow_any (w : World) :
    Calls Tryd.prog 17 #[] w fun e w' => ∃ s0 s1 s2 s3 s4 s5, e = .returned (.agg #[.int .i64 32, .slice (some ⟨s0, 0, none⟩) 3 3, .slice (some ⟨s1, 0, none⟩) 3 3, .slice (some ⟨s2, 0, none⟩) 3 3, .slice (some ⟨s3, 0, none⟩) 3 3, .int .u64 (n64 KD32.M), .slice (some ⟨s4, 0, none⟩) 64 64, .slice (some ⟨s5, 0, none⟩) 8 8]) ∧ Row w' s0 3 [.int .i64 7, .int .i64 18, .int .i64 3] ∧ Row w' s1 3 [.int .i64 17, .int .i64 19, .int .i64 10] ∧ Row w' s2 3 [.int .i64 2, .int .i64 13, .int .i64 22] ∧ Row w' s3 3 [.int .i64 6, .int .i64 11, .int .i64 25] ∧ Row w' s4 46 (KD32.ks.map wv64) ∧ Row w' s5 46 ((up32 B32).l.map wv64) ∧ Ext w w' := by
  rw [mask_narrow]
  go_enter Tryd.func17, Tryd.ntmps17
  go_upto_region 1 with fail
  obtain ⟨W0, hW0⟩ : ∃ W0, W0 = w.alloc (.cells #[.int .i64 0, .slice none 0 0, .slice none 0 0, .slice none 0 0, .slice none 0 0, .int .u64 0, .slice none 0 0, .slice none 0 0] 53) := ⟨_, rfl⟩
  obtain ⟨bk, hbk⟩ : ∃ bk, bk = w.heap.size := ⟨_, rfl⟩
  rw [← hW0, ← hbk]
  have hx0 : Ext w W0 := by rw [hW0]; exact ext_alloc _ _
  have hR : Row W0 bk 53 [.int .i64 0, .slice none 0 0, .slice none 0 0, .slice none 0 0, .slice none 0 0, .int .u64 0, .slice none 0 0, .slice none 0 0] := by rw [hW0, hbk]; exact Row.alloc w [.int .i64 0, .slice none 0 0, .slice none 0 0, .slice none 0 0, .slice none 0 0, .int .u64 0, .slice none 0 0, .slice none 0 0] _
  have hbl : w.heap.size ≤ bk := by omega
  clear hW0 hbk
  obtain ⟨W1, hW1⟩ : ∃ W1, W1 = W0.alloc (.cells #[.int .i64 7, .int .i64 18, .int .i64 3] 3) := ⟨_, rfl⟩
  obtain ⟨W2, hW2⟩ : ∃ W2, W2 = W1.alloc (.cells #[.int .i64 17, .int .i64 19, .int .i64 10] 3) := ⟨_, rfl⟩
  obtain ⟨W3, hW3⟩ : ∃ W3, W3 = W2.alloc (.cells #[.int .i64 2, .int .i64 13, .int .i64 22] 3) := ⟨_, rfl⟩
  obtain ⟨W4, hW4⟩ : ∃ W4, W4 = W3.alloc (.cells #[.int .i64 6, .int .i64 11, .int .i64 25] 3) := ⟨_, rfl⟩
  have q0 : Row W1 W0.heap.size 3 [.int .i64 7, .int .i64 18, .int .i64 3] := by rw [hW1]; exact Row.alloc W0 [.int .i64 7, .int .i64 18, .int .i64 3] _
  have q1 : Row W2 W1.heap.size 3 [.int .i64 17, .int .i64 19, .int .i64 10] := by rw [hW2]; exact Row.alloc W1 [.int .i64 17, .int .i64 19, .int .i64 10] _
  have q2 : Row W3 W2.heap.size 3 [.int .i64 2, .int .i64 13, .int .i64 22] := by rw [hW3]; exact Row.alloc W2 [.int .i64 2, .int .i64 13, .int .i64 22] _
  have q3 : Row W4 W3.heap.size 3 [.int .i64 6, .int .i64 11, .int .i64 25] := by rw [hW4]; exact Row.alloc W3 [.int .i64 6, .int .i64 11, .int .i64 25] _
  have e1 : Ext W0 W1 := by rw [hW1]; exact ext_alloc _ _
  have e2 : Ext W1 W2 := by rw [hW2]; exact ext_alloc _ _
  have e3 : Ext W2 W3 := by rw [hW3]; exact ext_alloc _ _
  have e4 : Ext W3 W4 := by rw [hW4]; exact ext_alloc _ _
  have e04 : Ext W0 W4 := e1.trans (e2.trans (e3.trans e4))
  have hA := short_any W4
  have hB := shortb_any
  have hbt : ∀ (a b c d s4 s5 : Nat) (w : World), (Instr.build 53 #[(0, .int .i64 32), (1, .slice (some ⟨a, 0, none⟩) 3 3), (2, .slice (some ⟨b, 0, none⟩) 3 3), (3, .slice (some ⟨c, 0, none⟩) 3 3), (4, .slice (some ⟨d, 0, none⟩) 3 3), (5, .int .u64 4294967295), (6, .slice (some ⟨s4, 0, none⟩) 64 64), (7, .slice (some ⟨s5, 0, none⟩) 8 8)]).run Tryd.prog w = .ok (.agg #[.int .i64 32, .slice (some ⟨a, 0, none⟩) 3 3, .slice (some ⟨b, 0, none⟩) 3 3, .slice (some ⟨c, 0, none⟩) 3 3, .slice (some ⟨d, 0, none⟩) 3 3, .int .u64 4294967295, .slice (some ⟨s4, 0, none⟩) 64 64, .slice (some ⟨s5, 0, none⟩) 8 8]) w := fun _ _ _ _ _ _ w => run_build w _ _ _ (by kernel_rfl)
  go_wp2_with (first
    | (go_at_call 22; rw [← hW1, ← hW2, ← hW3, ← hW4]; refine hA.mono ?_; rintro e w5 ⟨s4, rfl, hr4, hx5⟩)
    | (go_at_call 23; refine (hB w5).mono ?_; rintro e w6 ⟨s5, rfl, hr5, hx6⟩)
    | (refine wpList_store_row rfl 53 (.tmp 0) (.tmp 7) rfl bk _ rfl rfl 53 _ (hR.ext (e04.trans (hx5.trans hx6))) info53 rfl (by kernel_rfl) ?_))
  have z1 : W1.heap.size = W0.heap.size + 1 := by rw [hW1]; exact Array.size_push _
  have z2 : W2.heap.size = W0.heap.size + 1 + 1 := by rw [hW2, ← z1]; exact Array.size_push _
  have z3 : W3.heap.size = W0.heap.size + 1 + 1 + 1 := by rw [hW3, ← z2]; exact Array.size_push _
  rw [z1] at q1
  rw [z2] at q2
  rw [z3] at q3
  have hRf := hR.ext (e04.trans (hx5.trans hx6))
  refine bodyPost_ret (results_cell_row (p := 0) (ty := 53) rfl _ _ bk 53 _ (0, 0) _ rfl (setRow_heap w6 bk _ _ 53 (0, 0) hRf) Tryd.underlying53 rfl (by kernel_rfl)) rfl ⟨_, _, _, _, _, _, rfl, ?_, ?_, ?_, ?_, ?_, ?_, ?_⟩
  · exact row_other (q0.ext (e2.trans (e3.trans (e4.trans (hx5.trans hx6))))) hRf (by decide)
  · exact row_other (q1.ext (e3.trans (e4.trans (hx5.trans hx6)))) hRf (by decide)
  · exact row_other (q2.ext (e4.trans (hx5.trans hx6))) hRf (by decide)
  · exact row_other (q3.ext (hx5.trans hx6)) hRf (by decide)
  · exact row_other (hr4.ext hx6) hRf (by decide)
  · exact row_other hr5 hRf (by decide)
  · exact below_setRow (hx0.trans (e04.trans (hx5.trans hx6))) hbl _
set_option maxRecDepth 20000 in
set_option maxHeartbeats 4000000 in
theorem narrowsum_any (A : Option Addr) (n c : Nat) (l : List UInt8) (w : World) (hl : l.length = n) (hnc : n ≤ c) (hr : Rd w A (l.map bv)) (bnd : n ≤ 5000000) :
    Calls Tryd.prog 10 #[.slice A n c] w fun e w' => ∃ v, e = .returned v ∧ Out w' v (digG KD32 4 (zc32 n) ((fullG 4 (zc32 n) l).length / 64) (up32 B32) l) ∧ Ext w w' := by
  have h1 := narrow_any w
  have h2 := fun (s0 s1 s2 s3 s4 s5 : Nat) (w1 : World) r0 r1 r2 r3 r4 r5 hr => sumref_32 KD32 s0 s1 s2 s3 s4 s5 64 (up32 B32) A n c l w1 KD32.ok rfl (by decide) (by decide) (by decide) r0 r1 r2 r3 r4 r5 hl hnc hr bnd
  generalize digG KD32 4 (zc32 n) ((fullG 4 (zc32 n) l).length / 64) (up32 B32) l = d at *
  go_enter Tryd.func10, Tryd.ntmps10
  go_wp2_with (first
    | (go_at_call 17; refine h1.mono ?_; rintro e w1 ⟨s0, s1, s2, s3, s4, s5, rfl, r0, r1, r2, r3, r4, r5, hx1⟩)
    | (go_at_call 18; go_loud (refine (h2 s0 s1 s2 s3 s4 s5 w1 r0 r1 r2 r3 r4 r5 (hr.ext hx1)).mono ?_; rintro e w2 ⟨v, rfl, ho, hx2⟩)))
  go_ret
  exact ⟨_, rfl, ho, hx1.trans hx2⟩

theorem mask_wide : n64 KD64.M = 18446744073709551615 := by kernel_rfl
set_option maxRecDepth 20000 in
set_option maxHeartbeats 4000000 in
theorem wide_any (w : World) :
    Calls Tryd.prog 19 #[] w fun e w' => ∃ s0 s1 s2 s3 s4 s5, e = .returned (.agg #[.int .i64 64, .slice (some ⟨s0, 0, none⟩) 3 3, .slice (some ⟨s1, 0, none⟩) 3 3, .slice (some ⟨s2, 0, none⟩) 3 3, .slice (some ⟨s3, 0, none⟩) 3 3, .int .u64 (n64 KD64.M), .slice (some ⟨s4, 0, none⟩) 80 80, .slice (some ⟨s5, 0, none⟩) 8 8]) ∧ Row w' s0 3 [.int .i64 1, .int .i64 8, .int .i64 7] ∧ Row w' s1 3 [.int .i64 19, .int .i64 61, .int .i64 6] ∧ Row w' s2 3 [.int .i64 28, .int .i64 34, .int .i64 39] ∧ Row w' s3 3 [.int .i64 14, .int .i64 18, .int .i64 41] ∧ Row w' s4 46 (KD64.ks.map wv64) ∧ Row w' s5 46 (B64.l.map wv64) ∧ Ext w w' := by
  rw [mask_wide]
  go_enter Tryd.func19, Tryd.ntmps19
  go_upto_region 1 with fail
  obtain ⟨W0, hW0⟩ : ∃ W0, W0 = w.alloc (.cells #[.int .i64 0, .slice none 0 0, .slice none 0 0, .slice none 0 0, .slice none 0 0, .int .u64 0, .slice none 0 0, .slice none 0 0] 53) := ⟨_, rfl⟩
  obtain ⟨bk, hbk⟩ : ∃ bk, bk = w.heap.size := ⟨_, rfl⟩
  rw [← hW0, ← hbk]
  have hx0 : Ext w W0 := by rw [hW0]; exact ext_alloc _ _
  have hR : Row W0 bk 53 [.int .i64 0, .slice none 0 0, .slice none 0 0, .slice none 0 0, .slice none 0 0, .int .u64 0, .slice none 0 0, .slice none 0 0] := by rw [hW0, hbk]; exact Row.alloc w [.int .i64 0, .slice none 0 0, .slice none 0 0, .slice none 0 0, .slice none 0 0, .int .u64 0, .slice none 0 0, .slice none 0 0] _
  have hbl : w.heap.size ≤ bk := by omega
  clear hW0 hbk
  obtain ⟨W1, hW1⟩ : ∃ W1, W1 = W0.alloc (.cells #[.int .i64 1, .int .i64 8, .int .i64 7] 3) := ⟨_, rfl⟩
  obtain ⟨W2, hW2⟩ : ∃ W2, W2 = W1.alloc (.cells #[.int .i64 19, .int .i64 61, .int .i64 6] 3) := ⟨_, rfl⟩
  obtain ⟨W3, hW3⟩ : ∃ W3, W3 = W2.alloc (.cells #[.int .i64 28, .int .i64 34, .int .i64 39] 3) := ⟨_, rfl⟩
  obtain ⟨W4, hW4⟩ : ∃ W4, W4 = W3.alloc (.cells #[.int .i64 14, .int .i64 18, .int .i64 41] 3) := ⟨_, rfl⟩
  have q0 : Row W1 W0.heap.size 3 [.int .i64 1, .int .i64 8, .int .i64 7] := by rw [hW1]; exact Row.alloc W0 [.int .i64 1, .int .i64 8, .int .i64 7] _
  have q1 : Row W2 W1.heap.size 3 [.int .i64 19, .int .i64 61, .int .i64 6] := by rw [hW2]; exact Row.alloc W1 [.int .i64 19, .int .i64 61, .int .i64 6] _
  have q2 : Row W3 W2.heap.size 3 [.int .i64 28, .int .i64 34, .int .i64 39] := by rw [hW3]; exact Row.alloc W2 [.int .i64 28, .int .i64 34, .int .i64 39] _
  have q3 : Row W4 W3.heap.size 3 [.int .i64 14, .int .i64 18, .int .i64 41] := by rw [hW4]; exact Row.alloc W3 [.int .i64 14, .int .i64 18, .int .i64 41] _
  have e1 : Ext W0 W1 := by rw [hW1]; exact ext_alloc _ _
  have e2 : Ext W1 W2 := by rw [hW2]; exact ext_alloc _ _
  have e3 : Ext W2 W3 := by rw [hW3]; exact ext_alloc _ _
  have e4 : Ext W3 W4 := by rw [hW4]; exact ext_alloc _ _
  have e04 : Ext W0 W4 := e1.trans (e2.trans (e3.trans e4))
  have hA := long_any W4
  have hB := longb_any
  have hbt : ∀ (a b c d s4 s5 : Nat) (w : World), (Instr.build 53 #[(0, .int .i64 64), (1, .slice (some ⟨a, 0, none⟩) 3 3), (2, .slice (some ⟨b, 0, none⟩) 3 3), (3, .slice (some ⟨c, 0, none⟩) 3 3), (4, .slice (some ⟨d, 0, none⟩) 3 3), (5, .int .u64 18446744073709551615), (6, .slice (some ⟨s4, 0, none⟩) 80 80), (7, .slice (some ⟨s5, 0, none⟩) 8 8)]).run Tryd.prog w = .ok (.agg #[.int .i64 64, .slice (some ⟨a, 0, none⟩) 3 3, .slice (some ⟨b, 0, none⟩) 3 3, .slice (some ⟨c, 0, none⟩) 3 3, .slice (some ⟨d, 0, none⟩) 3 3, .int .u64 18446744073709551615, .slice (some ⟨s4, 0, none⟩) 80 80, .slice (some ⟨s5, 0, none⟩) 8 8]) w := fun _ _ _ _ _ _ w => run_build w _ _ _ (by kernel_rfl)
  go_wp2_with (first
    | (go_at_call 25; rw [← hW1, ← hW2, ← hW3, ← hW4]; refine hA.mono ?_; rintro e w5 ⟨s4, rfl, hr4, hx5⟩)
    | (go_at_call 26; refine (hB w5).mono ?_; rintro e w6 ⟨s5, rfl, hr5, hx6⟩)
    | (refine wpList_store_row rfl 53 (.tmp 0) (.tmp 7) rfl bk _ rfl rfl 53 _ (hR.ext (e04.trans (hx5.trans hx6))) info53 rfl (by kernel_rfl) ?_))
  have z1 : W1.heap.size = W0.heap.size + 1 := by rw [hW1]; exact Array.size_push _
  have z2 : W2.heap.size = W0.heap.size + 1 + 1 := by rw [hW2, ← z1]; exact Array.size_push _
  have z3 : W3.heap.size = W0.heap.size + 1 + 1 + 1 := by rw [hW3, ← z2]; exact Array.size_push _
  rw [z1] at q1
  rw [z2] at q2
  rw [z3] at q3
  have hRf := hR.ext (e04.trans (hx5.trans hx6))
  refine bodyPost_ret (results_cell_row (p := 0) (ty := 53) rfl _ _ bk 53 _ (0, 0) _ rfl (setRow_heap w6 bk _ _ 53 (0, 0) hRf) Tryd.underlying53 rfl (by kernel_rfl)) rfl ⟨_, _, _, _, _, _, rfl, ?_, ?_, ?_, ?_, ?_, ?_, ?_⟩
  · exact row_other (q0.ext (e2.trans (e3.trans (e4.trans (hx5.trans hx6))))) hRf (by decide)
  · exact row_other (q1.ext (e3.trans (e4.trans (hx5.trans hx6)))) hRf (by decide)
  · exact row_other (q2.ext (e4.trans (hx5.trans hx6))) hRf (by decide)
  · exact row_other (q3.ext (hx5.trans hx6)) hRf (by decide)
  · exact row_other (hr4.ext hx6) hRf (by decide)
  · exact row_other hr5 hRf (by decide)
  · exact below_setRow (hx0.trans (e04.trans (hx5.trans hx6))) hbl _
set_option maxRecDepth 20000 in
set_option maxHeartbeats 4000000 in
theorem widesum_any (A : Option Addr) (n c : Nat) (l : List UInt8) (w : World) (hl : l.length = n) (hnc : n ≤ c) (hr : Rd w A (l.map bv)) (bnd : n ≤ 5000000) :
    Calls Tryd.prog 11 #[.slice A n c] w fun e w' => ∃ v, e = .returned v ∧ Out w' v (digG KD64 8 (zc64 n) ((fullG 8 (zc64 n) l).length / 128) B64 l) ∧ Ext w w' := by
  have h1 := wide_any w
  have h2 := fun (s0 s1 s2 s3 s4 s5 : Nat) (w1 : World) r0 r1 r2 r3 r4 r5 hr => sumref_64 KD64 s0 s1 s2 s3 s4 s5 80 B64 A n c l w1 KD64.ok rfl (by decide) (by decide) (by decide) r0 r1 r2 r3 r4 r5 hl hnc hr bnd
  generalize digG KD64 8 (zc64 n) ((fullG 8 (zc64 n) l).length / 128) B64 l = d at *
  go_enter Tryd.func11, Tryd.ntmps11
  go_wp2_with (first
    | (go_at_call 19; refine h1.mono ?_; rintro e w1 ⟨s0, s1, s2, s3, s4, s5, rfl, r0, r1, r2, r3, r4, r5, hx1⟩)
    | (go_at_call 18; go_loud (refine (h2 s0 s1 s2 s3 s4 s5 w1 r0 r1 r2 r3 r4 r5 (hr.ext hx1)).mono ?_; rintro e w2 ⟨v, rfl, ho, hx2⟩)))
  go_ret
  exact ⟨_, rfl, ho, hx1.trans hx2⟩

end Go.Proofs.YtnlphndfnnmdaaaDoor
