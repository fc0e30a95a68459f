/-
  Texts of the lemmas below the claim, put together: HashS HashT HashU.
-/
import Derived.Test.YtgeihelkkhjjaaaGreatDoorKHashR
import Derived.Laws.Rows
set_option linter.unusedSimpArgs false
set_option linter.unusedVariables false
set_option maxRecDepth 20000
set_option maxHeartbeats 4000000
section
namespace Go.Cv.Hash
open Go.RowKit
def KD32 : Kd:=⟨32,4294967295,7,18,3,17,19,10,2,13,22,6,11,25,K32.map UInt32.toUInt64⟩
def KD64 : Kd:=⟨64,18446744073709551615,1,8,7,19,61,6,28,34,39,14,18,41,K64⟩
theorem KD32.ok : KD32.Ok:=by constructor <;> decide
theorem KD64.ok : KD64.Ok:=by constructor <;> decide
end Go.Cv.Hash
namespace Go.Proofs.YtgeihelkkhjjaaaGreatDoor
open Go.RowKit Go.Cv Go.Cv.Hash Go.Cv.Dig
theorem qed {w : World} {b k : Nat} {T U : TypeId} {cs old : List Value} {new : Array Value} (hk : Row w k T cs) (hb : Row w b U old) (hne : T ≠ U) : Row (w.setRow b new) k T cs:=by
 unfold Row at *
 rw [setRow_other w b k new (fun e=>by
  subst e
  rw [hk] at hb
  injection hb with hb
  injection hb with _ hb
  exact hne hb)]
 exact hk
theorem info53 : (Tryz.prog.info? 81).map (·.size) = some 8:=by kernel_rfl

theorem lit_long : ([.int .u64 4794697086780616226,.int .u64 8158064640168781261,.int .u64 13096744586834688815,.int .u64 16840607885511220156,.int .u64 4131703408338449720,.int .u64 6480981068601479193,.int .u64 10538285296894168987,.int .u64 12329834152419229976,.int .u64 15566598209576043074,.int .u64 1334009975649890238,.int .u64 2608012711638119052,.int .u64 6128411473006802146,.int .u64 8268148722764581231,.int .u64 9286055187155687089,.int .u64 11230858885718282805,.int .u64 13951009754708518548,.int .u64 16472876342353939154,.int .u64 17275323862435702243,.int .u64 1135362057144423861,.int .u64 2597628984639134821,.int .u64 3308224258029322869,.int .u64 5365058923640841347,.int .u64 6679025012923562964,.int .u64 8573033837759648693,.int .u64 10970295158949994411,.int .u64 12119686244451234320,.int .u64 12683024718118986047,.int .u64 13788192230050041572,.int .u64 14330467153632333762,.int .u64 15395433587784984357,.int .u64 489312712824947311,.int .u64 1452737877330783856,.int .u64 2861767655752347644,.int .u64 3322285676063803686,.int .u64 5560940570517711597,.int .u64 5996557281743188959,.int .u64 7280758554555802590,.int .u64 8532644243296465576,.int .u64 9350256976987008742,.int .u64 10552545826968843579,.int .u64 11727347734174303076,.int .u64 12113106623233404929,.int .u64 14000437183269869457,.int .u64 14369950271660146224,.int .u64 15101387698204529176,.int .u64 15463397548674623760,.int .u64 17586052441742319658,.int .u64 1182934255886127544,.int .u64 1847814050463011016,.int .u64 2177327727835720531,.int .u64 2830643537854262169,.int .u64 3796741975233480872,.int .u64 4115178125766777443,.int .u64 5681478168544905931,.int .u64 6601373596472566643,.int .u64 7507060721942968483,.int .u64 8399075790359081724,.int .u64 8693463985226723168,.int .u64 9568029438360202098,.int .u64 10144078919501101548,.int .u64 10430055236837252648,.int .u64 11840083180663258601,.int .u64 13761210420658862357,.int .u64 14299343276471374635,.int .u64 14566680578165727644,.int .u64 15097957966210449927,.int .u64 16922976911328602910,.int .u64 17689382322260857208,.int .u64 500013540394364858,.int .u64 748580250866718886,.int .u64 1242879168328830382,.int .u64 1977374033974150939,.int .u64 2944078676154940804,.int .u64 3659926193048069267,.int .u64 4368137639120453308,.int .u64 4836135668995329356,.int .u64 5532061633213252278,.int .u64 6448918945643986474,.int .u64 6902733635092675308,.int .u64 7801388544844847127] : List Value) = (K64).map wv64:=by kernel_rfl
theorem long_any (w : World) :
  Calls Tryz.prog 81 #[] w fun e w'=>∃ b,e = .returned (.slice (some ⟨b,0,none⟩) 80 80)∧Row w' b 73 ((K64).map wv64)∧Ext w w':=by
 rw [← lit_long]
 go_enter Tryz.func81,Tryz.ntmps81
 go_wp2
 go_ret
 exact ⟨_,rfl,Row.alloc w [.int .u64 4794697086780616226,.int .u64 8158064640168781261,.int .u64 13096744586834688815,.int .u64 16840607885511220156,.int .u64 4131703408338449720,.int .u64 6480981068601479193,.int .u64 10538285296894168987,.int .u64 12329834152419229976,.int .u64 15566598209576043074,.int .u64 1334009975649890238,.int .u64 2608012711638119052,.int .u64 6128411473006802146,.int .u64 8268148722764581231,.int .u64 9286055187155687089,.int .u64 11230858885718282805,.int .u64 13951009754708518548,.int .u64 16472876342353939154,.int .u64 17275323862435702243,.int .u64 1135362057144423861,.int .u64 2597628984639134821,.int .u64 3308224258029322869,.int .u64 5365058923640841347,.int .u64 6679025012923562964,.int .u64 8573033837759648693,.int .u64 10970295158949994411,.int .u64 12119686244451234320,.int .u64 12683024718118986047,.int .u64 13788192230050041572,.int .u64 14330467153632333762,.int .u64 15395433587784984357,.int .u64 489312712824947311,.int .u64 1452737877330783856,.int .u64 2861767655752347644,.int .u64 3322285676063803686,.int .u64 5560940570517711597,.int .u64 5996557281743188959,.int .u64 7280758554555802590,.int .u64 8532644243296465576,.int .u64 9350256976987008742,.int .u64 10552545826968843579,.int .u64 11727347734174303076,.int .u64 12113106623233404929,.int .u64 14000437183269869457,.int .u64 14369950271660146224,.int .u64 15101387698204529176,.int .u64 15463397548674623760,.int .u64 17586052441742319658,.int .u64 1182934255886127544,.int .u64 1847814050463011016,.int .u64 2177327727835720531,.int .u64 2830643537854262169,.int .u64 3796741975233480872,.int .u64 4115178125766777443,.int .u64 5681478168544905931,.int .u64 6601373596472566643,.int .u64 7507060721942968483,.int .u64 8399075790359081724,.int .u64 8693463985226723168,.int .u64 9568029438360202098,.int .u64 10144078919501101548,.int .u64 10430055236837252648,.int .u64 11840083180663258601,.int .u64 13761210420658862357,.int .u64 14299343276471374635,.int .u64 14566680578165727644,.int .u64 15097957966210449927,.int .u64 16922976911328602910,.int .u64 17689382322260857208,.int .u64 500013540394364858,.int .u64 748580250866718886,.int .u64 1242879168328830382,.int .u64 1977374033974150939,.int .u64 2944078676154940804,.int .u64 3659926193048069267,.int .u64 4368137639120453308,.int .u64 4836135668995329356,.int .u64 5532061633213252278,.int .u64 6448918945643986474,.int .u64 6902733635092675308,.int .u64 7801388544844847127] _,qaa _ _⟩

theorem qqt : ([.int .u64 7640891576956012808,.int .u64 13503953896175478587,.int .u64 4354685564936845355,.int .u64 11912009170470909681,.int .u64 5840696475078001361,.int .u64 11170449401992604703,.int .u64 2270897969802886507,.int .u64 6620516959819538809] : List Value) = (B64.l).map wv64:=by kernel_rfl
theorem qqr (w : World) :
  Calls Tryz.prog 82 #[] w fun e w'=>∃ b,e = .returned (.slice (some ⟨b,0,none⟩) 8 8)∧Row w' b 73 ((B64.l).map wv64)∧Ext w w':=by
 rw [← qqt]
 go_enter Tryz.func82,Tryz.ntmps82
 go_wp2
 go_ret
 exact ⟨_,rfl,Row.alloc w [.int .u64 7640891576956012808,.int .u64 13503953896175478587,.int .u64 4354685564936845355,.int .u64 11912009170470909681,.int .u64 5840696475078001361,.int .u64 11170449401992604703,.int .u64 2270897969802886507,.int .u64 6620516959819538809] _,qaa _ _⟩

theorem qql : n64 KD64.M = 18446744073709551615:=by kernel_rfl
theorem wide_any (w : World) :
  Calls Tryz.prog 52 #[] w fun e w'=>∃ s0 s1 s2 s3 s4 s5,e = .returned (.agg #[.int .i64 64,.slice (some ⟨s0,0,none⟩) 3 3,.slice (some ⟨s1,0,none⟩) 3 3,.slice (some ⟨s2,0,none⟩) 3 3,.slice (some ⟨s3,0,none⟩) 3 3,.int .u64 (n64 KD64.M),.slice (some ⟨s4,0,none⟩) 80 80,.slice (some ⟨s5,0,none⟩) 8 8])∧Row w' s0 3 [.int .i64 1,.int .i64 8,.int .i64 7]∧Row w' s1 3 [.int .i64 19,.int .i64 61,.int .i64 6]∧Row w' s2 3 [.int .i64 28,.int .i64 34,.int .i64 39]∧Row w' s3 3 [.int .i64 14,.int .i64 18,.int .i64 41]∧Row w' s4 73 (KD64.ks.map wv64)∧Row w' s5 73 (B64.l.map wv64)∧Ext w w':=by
 rw [qql]
 go_enter Tryz.func52,Tryz.ntmps52
 go_upto_region 1 with fail
 obtain ⟨W0,hW0⟩ : ∃ W0,W0 = w.alloc (.cells #[.int .i64 0,.slice none 0 0,.slice none 0 0,.slice none 0 0,.slice none 0 0,.int .u64 0,.slice none 0 0,.slice none 0 0] 81):=⟨_,rfl⟩
 obtain ⟨bk,hbk⟩ : ∃ bk,bk = w.heap.size:=⟨_,rfl⟩
 rw [← hW0,← hbk]
 have hx0 : Ext w W0:=by rw [hW0];exact qaa _ _
 have hR : Row W0 bk 81 [.int .i64 0,.slice none 0 0,.slice none 0 0,.slice none 0 0,.slice none 0 0,.int .u64 0,.slice none 0 0,.slice none 0 0]:=by rw [hW0,hbk];exact Row.alloc w [.int .i64 0,.slice none 0 0,.slice none 0 0,.slice none 0 0,.slice none 0 0,.int .u64 0,.slice none 0 0,.slice none 0 0] _
 have hbl : w.heap.size ≤ bk:=by omega
 clear hW0 hbk
 obtain ⟨W1,hW1⟩ : ∃ W1,W1 = W0.alloc (.cells #[.int .i64 1,.int .i64 8,.int .i64 7] 3):=⟨_,rfl⟩
 obtain ⟨W2,hW2⟩ : ∃ W2,W2 = W1.alloc (.cells #[.int .i64 19,.int .i64 61,.int .i64 6] 3):=⟨_,rfl⟩
 obtain ⟨W3,hW3⟩ : ∃ W3,W3 = W2.alloc (.cells #[.int .i64 28,.int .i64 34,.int .i64 39] 3):=⟨_,rfl⟩
 obtain ⟨W4,hW4⟩ : ∃ W4,W4 = W3.alloc (.cells #[.int .i64 14,.int .i64 18,.int .i64 41] 3):=⟨_,rfl⟩
 have q0 : Row W1 W0.heap.size 3 [.int .i64 1,.int .i64 8,.int .i64 7]:=by rw [hW1];exact Row.alloc W0 [.int .i64 1,.int .i64 8,.int .i64 7] _
 have q1 : Row W2 W1.heap.size 3 [.int .i64 19,.int .i64 61,.int .i64 6]:=by rw [hW2];exact Row.alloc W1 [.int .i64 19,.int .i64 61,.int .i64 6] _
 have q2 : Row W3 W2.heap.size 3 [.int .i64 28,.int .i64 34,.int .i64 39]:=by rw [hW3];exact Row.alloc W2 [.int .i64 28,.int .i64 34,.int .i64 39] _
 have q3 : Row W4 W3.heap.size 3 [.int .i64 14,.int .i64 18,.int .i64 41]:=by rw [hW4];exact Row.alloc W3 [.int .i64 14,.int .i64 18,.int .i64 41] _
 have e1 : Ext W0 W1:=by rw [hW1];exact qaa _ _
 have e2 : Ext W1 W2:=by rw [hW2];exact qaa _ _
 have e3 : Ext W2 W3:=by rw [hW3];exact qaa _ _
 have e4 : Ext W3 W4:=by rw [hW4];exact qaa _ _
 have e04 : Ext W0 W4:=e1.trans (e2.trans (e3.trans e4))
 have hA:=long_any W4
 have hB:=qqr
 have hbt : ∀ (a b c d s4 s5 : Nat) (w : World),(Instr.build 81 #[(0,.int .i64 64),(1,.slice (some ⟨a,0,none⟩) 3 3),(2,.slice (some ⟨b,0,none⟩) 3 3),(3,.slice (some ⟨c,0,none⟩) 3 3),(4,.slice (some ⟨d,0,none⟩) 3 3),(5,.int .u64 18446744073709551615),(6,.slice (some ⟨s4,0,none⟩) 80 80),(7,.slice (some ⟨s5,0,none⟩) 8 8)]).run Tryz.prog w = .ok (.agg #[.int .i64 64,.slice (some ⟨a,0,none⟩) 3 3,.slice (some ⟨b,0,none⟩) 3 3,.slice (some ⟨c,0,none⟩) 3 3,.slice (some ⟨d,0,none⟩) 3 3,.int .u64 18446744073709551615,.slice (some ⟨s4,0,none⟩) 80 80,.slice (some ⟨s5,0,none⟩) 8 8]) w:=fun _ _ _ _ _ _ w=>run_build w _ _ _ (by kernel_rfl)
 go_wp2_with (first
  | (go_at_call 81;rw [← hW1,← hW2,← hW3,← hW4];refine hA.mono ?_;rintro e w5 ⟨s4,rfl,hr4,hx5⟩)
  | (go_at_call 82;refine (hB w5).mono ?_;rintro e w6 ⟨s5,rfl,hr5,hx6⟩)
  | (refine wpList_store_row rfl 81 (.tmp 0) (.tmp 7) rfl bk _ rfl rfl 81 _ (hR.ext (e04.trans (hx5.trans hx6))) info53 rfl (by kernel_rfl) ?_))
 have z1 : W1.heap.size = W0.heap.size + 1:=by rw [hW1];exact Array.size_push _
 have z2 : W2.heap.size = W0.heap.size + 1 + 1:=by rw [hW2,← z1];exact Array.size_push _
 have z3 : W3.heap.size = W0.heap.size + 1 + 1 + 1:=by rw [hW3,← z2];exact Array.size_push _
 rw [z1] at q1
 rw [z2] at q2
 rw [z3] at q3
 have hRf:=hR.ext (e04.trans (hx5.trans hx6))
 refine bodyPost_ret (results_cell_row (p:=0) (ty:=81) rfl _ _ bk 81 _ (0,0) _ rfl (setRow_heap w6 bk _ _ 81 (0,0) hRf) Tryz.underlying81 rfl (by kernel_rfl)) rfl ⟨_,_,_,_,_,_,rfl,?_,?_,?_,?_,?_,?_,?_⟩
 ·exact qed (q0.ext (e2.trans (e3.trans (e4.trans (hx5.trans hx6))))) hRf (by decide)
 ·exact qed (q1.ext (e3.trans (e4.trans (hx5.trans hx6)))) hRf (by decide)
 ·exact qed (q2.ext (e4.trans (hx5.trans hx6))) hRf (by decide)
 ·exact qed (q3.ext (hx5.trans hx6)) hRf (by decide)
 ·exact qed (hr4.ext hx6) hRf (by decide)
 ·exact qed hr5 hRf (by decide)
 ·exact below_setRow (hx0.trans (e04.trans (hx5.trans hx6))) hbl _
theorem qlk (A : Option Addr) (n c : Nat) (l : List UInt8) (w : World) (hl : l.length = n) (hnc : n ≤ c) (hr : Rd w A (l.map bv)) (bnd : n ≤ 5000000) :
  Calls Tryz.prog 22 #[.slice A n c] w fun e w'=>∃ v,e = .returned v∧w'.ownsRow w.heap.size 5 1 v 64 ((digG KD64 8 (zc64 n) ((qhh 8 (zc64 n) l).length / 128) B64 l).map bv)∧Ext w w':=by
 have h1:=wide_any w
 have h2:=fun (s0 s1 s2 s3 s4 s5 : Nat) (w1 : World) r0 r1 r2 r3 r4 r5 hr=>qpc KD64 s0 s1 s2 s3 s4 s5 80 B64 A n c l w1 KD64.ok rfl (by decide) (by decide) (by decide) r0 r1 r2 r3 r4 r5 hl hnc hr bnd
 generalize digG KD64 8 (zc64 n) ((qhh 8 (zc64 n) l).length / 128) B64 l = d at *
 go_enter Tryz.func22,Tryz.ntmps22
 go_wp2_with (first
  | (go_at_call 52;refine h1.mono ?_;rintro e w1 ⟨s0,s1,s2,s3,s4,s5,rfl,r0,r1,r2,r3,r4,r5,hx1⟩)
  | (go_at_call 53;go_loud (refine (h2 s0 s1 s2 s3 s4 s5 w1 r0 r1 r2 r3 r4 r5 (hr.ext hx1)).mono ?_;rintro e w2 ⟨v,rfl,ho,hx2⟩)))
 go_ret
 exact ⟨_,rfl,qjr ho hx1.size,hx1.trans hx2⟩

end Go.Proofs.YtgeihelkkhjjaaaGreatDoor
end
section
namespace Go.Cv.Hash
open Go.RowKit
abbrev ex (x : UInt32) : UInt64:=x.toUInt64
theorem app_64 (x : UInt64) (c : UInt8) : qox x c = 256 * x + c.toUInt64:=by
 unfold qox
 apply UInt64.toNat_inj.1
 rw [UInt64.toNat_or,UInt64.toNat_add,UInt64.toNat_mul,UInt64.toNat_shiftLeft,UInt8.toNat_toUInt64]
 have hc:=c.toNat_lt
 have h8 : (8 : UInt64).toNat % 64 = 8:=rfl
 have h256 : (256 : UInt64).toNat = 256:=rfl
 rw [h8,h256,Nat.shiftLeft_eq]
 have e : x.toNat * 2 ^ 8 % 2 ^ 64 = (x.toNat % 2 ^ 56) <<< 8:=by rw [Nat.shiftLeft_eq];omega
 rw [e,← Nat.shiftLeft_add_eq_or_of_lt (by omega),Nat.shiftLeft_eq]
 omega
theorem take_up (full : List UInt8) (p j : Nat) (h : p + j < full.length) : (full.drop p).take (j + 1) = (full.drop p).take j ++ [full.getD (p + j) 0]:=by
 rw [List.take_succ_eq_append_getElem (by rw [List.length_drop];omega),List.getElem_drop]
 congr 2
 simp [List.getD,List.getElem?_eq_getElem h]
theorem qj7 (full : List UInt8) (p : Nat) : ∀ j,p + j ≤ full.length→qd9 full p j = be64 ((full.drop p).take j)
 | 0,_=>by simp [qd9,be64]
 | j + 1,h=>by
  rw [take_up full p j (by omega)]
  unfold be64
  rw [List.foldl_append,List.foldl_cons,List.foldl_nil,app_64,qd9,qj7 full p j (by omega)]
  rfl
theorem qny (full : List UInt8) (at' : Nat) (h : at' + 128 ≤ full.length) : wordsAt full 8 at' 16 = qcc ((full.drop at').take 128):=by
 unfold wordsAt qcc
 refine List.map_congr_left fun i hi=>?_
 have hi:=List.mem_range.1 hi
 show qd9 full (at' + 8 * i) 8 = be64 ((((full.drop at').take 128).drop (i * 8)).take 8)
 rw [qj7 full (at' + 8 * i) 8 (by omega),List.drop_take,List.take_take,List.drop_drop,Nat.mul_comm 8 i,Nat.min_eq_left (by omega)]
end Go.Cv.Hash
end
section
namespace Go.Cv.Hash
open Go.RowKit
theorem qnz (D : Kd) (S : Nat) (full : List UInt8) (f at' : Nat) (s : St64) : qj9 D S full (f + 1) at' s = qj9 D S full f (at' + 16 * S) (qfa D (wordsAt full S at' 16) s):=rfl
theorem qln (ks : List UInt64) (f : Nat) (l : List UInt8) (s : St64) : qfp ks (f + 1) l s = qfp ks f (l.drop 128) (qc4 ks (qcc (l.take 128)) s):=rfl
theorem qle (u : UInt64) : u &&& 18446744073709551615 = u:=by
 apply UInt64.toNat_inj.1
 rw [UInt64.toNat_and]
 show u.toNat &&& 18446744073709551615 = u.toNat
 rw [show (18446744073709551615 : Nat) = 2 ^ 64 - 1 from rfl,Nat.and_two_pow_sub_one_eq_mod]
 exact Nat.mod_eq_of_lt u.toNat_lt
theorem not_64 (x : UInt64) : 18446744073709551615 ^^^ x = ~~~x:=by
 have h : (18446744073709551615 : UInt64) = -1:=rfl
 rw [h,UInt64.neg_one_xor]
theorem qh3 (x : UInt64) (k : Nat) : rotG 64 18446744073709551615 x k = qd3 x k:=by
 unfold rotG qd3
 rw [qle,UInt64.or_comm]
theorem qke (x : UInt64) (i j k : Nat) : qew 64 18446744073709551615 x i j k = qdg x i j k:=by
 unfold qew qdg
 rw [qh3,qh3]
theorem qkz (x : UInt64) (i j k : Nat) : qfx 64 18446744073709551615 x i j k = qe9 x i j k:=by
 unfold qfx qe9
 rw [qh3,qh3,qh3]
theorem nxtG_64 (l : List UInt64) : nxtG KD64 l = qof l:=by
 unfold nxtG qof
 show (qew 64 18446744073709551615 _ 19 61 6 + _ + qew 64 18446744073709551615 _ 1 8 7 + _) &&& 18446744073709551615 = _
 rw [qle,qke,qke]
theorem qkf : ∀ n (l : List UInt64),qgk KD64 n l = qfz n l
 | 0,_=>rfl
 | n + 1,l=>by
  simp only [qgk,qfz]
  rw [nxtG_64,qkf n]
theorem oneG_64 (s : St64) (k x : UInt64) : oneG KD64 s k x = ql2 s k x:=by
 unfold oneG ql2
 show s.h + qfx 64 18446744073709551615 s.e 14 18 41 + (s.e &&& s.f ^^^ (18446744073709551615 ^^^ s.e) &&& s.g) + k + x = _
 rw [qkz,not_64]
theorem dosG_64 (s : St64) : dosG KD64 s = qrj s:=by
 unfold dosG qrj
 show qfx 64 18446744073709551615 s.a 28 34 39 + _ = _
 rw [qkz]
theorem rndG_64 (s : St64) (k x : UInt64) : rndG KD64 s k x = qn7 s k x:=by
 unfold rndG qn7
 rw [oneG_64,dosG_64]
 show St64.mk (_ &&& 18446744073709551615) _ _ _ (_ &&& 18446744073709551615) _ _ _ = _
 rw [qle,qle]
theorem qm4 : ∀ (ks xs : List UInt64) (s : St64),qgw KD64 ks xs s = qex ks xs s
 | [],_,_=>by simp [qgw,qex]
 | _ :: _,[],_=>by simp [qgw,qex]
 | k :: ks,x :: xs,s=>by
  simp only [qgw,qex]
  rw [rndG_64,qm4 ks xs]
theorem plusG_64 (s t : St64) : qlz KD64 s t = qkj s t:=by
 unfold qlz qkj
 show St64.mk ((s.a + t.a) &&& 18446744073709551615) ((s.b + t.b) &&& 18446744073709551615) ((s.c + t.c) &&& 18446744073709551615) ((s.d + t.d) &&& 18446744073709551615) ((s.e + t.e) &&& 18446744073709551615) ((s.f + t.f) &&& 18446744073709551615) ((s.g + t.g) &&& 18446744073709551615) ((s.h + t.h) &&& 18446744073709551615) = _
 simp only [qle]
theorem qrt (ws : List UInt64) (s : St64) (hw : ws.length = 16) : qfa KD64 ws s = qc4 K64 ws s:=by
 unfold qfa qc4
 have e1 : KD64.ks.length - 16 = 80 - 16:=by decide
 have e2 : KD64.ks = K64:=rfl
 rw [e1,e2,qkf,qm4,plusG_64,List.take_of_length_le (by omega)]
theorem qms (full : List UInt8) : ∀ f at' s,at' + 128 * f ≤ full.length→qj9 KD64 8 full f at' s = qfp K64 f (full.drop at') s
 | 0,_,_,_=>rfl
 | f + 1,at',s,h=>by
  have hw : (qcc ((full.drop at').take 128)).length = 16:=by simp [qcc]
  have ih:=qms full f (at' + 128) (qc4 K64 (qcc ((full.drop at').take 128)) s) (by omega)
  rw [qnz,qln,show 16 * 8 = 128 from rfl,qny full at' (by omega),qrt _ _ hw,ih,List.drop_drop]
theorem len_zero (u : UInt64) : (u % 32).toUInt8 * (8 : UInt8) = ((u <<< 3) >>> UInt64.ofNat (8 * 0)).toUInt8:=by
 apply UInt8.toNat_inj.1
 have h3 : (3 : UInt64).toNat % 64 = 3:=rfl
 have h0 : (UInt64.ofNat (8 * 0)).toNat % 64 = 0:=rfl
 have h32 : (32 : UInt64).toNat = 32:=rfl
 have h8 : (8 : UInt8).toNat = 8:=rfl
 rw [UInt8.toNat_mul,UInt64.toNat_toUInt8,UInt64.toNat_toUInt8,UInt64.toNat_mod,UInt64.toNat_shiftRight,UInt64.toNat_shiftLeft,h3,h0,h32,h8,Nat.shiftLeft_eq,Nat.shiftRight_eq_div_pow]
 omega
theorem len_some (u : UInt64) (i : Nat) (h1 : 1 ≤ i) (h7 : i ≤ 7) : (u >>> UInt64.ofNat (8 * i - 3)).toUInt8 = ((u <<< 3) >>> UInt64.ofNat (8 * i)).toUInt8:=by
 apply UInt8.toNat_inj.1
 have h3 : (3 : UInt64).toNat % 64 = 3:=rfl
 have hu:=u.toNat_lt
 rw [UInt64.toNat_toUInt8,UInt64.toNat_toUInt8,UInt64.toNat_shiftRight,UInt64.toNat_shiftRight,UInt64.toNat_shiftLeft,h3,qcx _ (by omega),qcx _ (by omega),Nat.mod_eq_of_lt (show 8 * i - 3 < 64 by omega),Nat.mod_eq_of_lt (show 8 * i < 64 by omega),Nat.shiftLeft_eq,Nat.shiftRight_eq_div_pow,Nat.shiftRight_eq_div_pow]
 rcases (by omega : i = 1 ∨ i = 2 ∨ i = 3 ∨ i = 4 ∨ i = 5 ∨ i = 6 ∨ i = 7) with rfl | rfl | rfl | rfl | rfl | rfl | rfl <;> omega
theorem qd0 (n i : Nat) (h : i ≤ 7) : lenB n i = ((u64 (n : Int) <<< 3) >>> UInt64.ofNat (8 * i)).toUInt8:=by
 unfold lenB
 by_cases h0 : i = 0
 ·subst h0
  rw [if_pos rfl,len_zero]
 ·rw [if_neg h0,if_pos (by omega),len_some _ _ (by omega) h]
theorem lenB_8 (n : Nat) : lenB n 8 = (u64 (n : Int) >>> 61).toUInt8:=rfl
theorem qdr (n i : Nat) (h : 8 < i) : lenB n i = 0:=by
 unfold lenB
 rw [if_neg (by omega),if_neg (by omega)]
theorem mcur_64 (n : Nat) : (qdi n 8).drop 0 = [0,0,0,0,0,0,0,lenB n 8,lenB n 7,lenB n 6,lenB n 5,lenB n 4,lenB n 3,lenB n 2,lenB n 1,lenB n 0]:=by
 rw [qd0 n 7 (by omega),qd0 n 6 (by omega),qd0 n 5 (by omega),qd0 n 4 (by omega),qd0 n 3 (by omega),qd0 n 2 (by omega),qd0 n 1 (by omega),qd0 n 0 (by omega),lenB_8]
 rfl
theorem lens_64 (n : Nat) : qe7 n 16 16 = (qdi n 8).drop 0:=by
 rw [mcur_64]
 have e : qe7 n 16 16 = [lenB n 15,lenB n 14,lenB n 13,lenB n 12,lenB n 11,lenB n 10,lenB n 9,lenB n 8,lenB n 7,lenB n 6,lenB n 5,lenB n 4,lenB n 3,lenB n 2,lenB n 1,lenB n 0]:=rfl
 rw [e,qdr n 15 (by omega),qdr n 14 (by omega),qdr n 13 (by omega),qdr n 12 (by omega),qdr n 11 (by omega),qdr n 10 (by omega),qdr n 9 (by omega)]
theorem fullG_64 (l : List UInt8) : qhh 8 (zc64 l.length) l = qde l:=by
 unfold qhh qde
 rw [show 2 * 8 = 16 from rfl,lens_64]
theorem dig_64 (l : List UInt8) (n : Nat) (h : l.length = n) : digG KD64 8 (zc64 n) ((qhh 8 (zc64 n) l).length / 128) B64 l = hash64 l:=by
 subst h
 unfold digG hash64 digest64 qh7
 rw [fullG_64,qms _ _ _ _ (by have:=Nat.div_mul_le_self (qde l).length 128;omega),List.drop_zero]
 rfl
end Go.Cv.Hash
namespace Go.Proofs.YtgeihelkkhjjaaaGreatDoor
open Go.RowKit Go.Cv Go.Cv.Hash Go.Cv.Dig
theorem qoa (A : Option Addr) (n c : Nat) (l : List UInt8) (w : World) (hl : l.length = n) (hnc : n ≤ c) (hr : Rd w A (l.map bv)) (bnd : n ≤ 5000000) :
  Calls Tryz.prog 22 #[.slice A n c] w fun e w'=>∃ v,e = .returned v∧w'.ownsRow w.heap.size 5 1 v 64 ((hash64 l).map bv)∧Ext w w':=by
 have h:=qlk A n c l w hl hnc hr bnd
 rw [dig_64 l n hl] at h
 exact h
end Go.Proofs.YtgeihelkkhjjaaaGreatDoor
end
