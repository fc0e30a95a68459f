/-
  hash.sum walked, words of 64 bits.
-/
import Derived.Test.YtgeihelkkhjjaaaGreatDoorKHashC
import Derived.OwnWalk
set_option linter.unusedSimpArgs false
set_option linter.unusedVariables false
set_option maxRecDepth 20000
set_option maxHeartbeats 16000000
namespace Go.Cv.Hash
open Go.RowKit
def zc64 (n : Nat) : Nat:=(128 - (n + 1 + 16) % 128) % 128
def qdi (n : Nat) : Nat→List UInt8
 | 0=>(List.replicate 16 (0 : UInt8)).set 7 (u64 (n : Int) >>> 61).toUInt8
 | i + 1=>(qdi n i).set (15 - i) ((u64 (n : Int) <<< 3) >>> UInt64.ofNat (8 * i)).toUInt8
theorem qfi (n : Nat) : ∀ i,(qdi n i).length = 16
 | 0=>by simp [qdi]
 | i + 1=>by simp only [qdi,List.length_set];exact qfi n i
def qde (l : List UInt8) : List UInt8:=l ++ [128] ++ List.replicate (zc64 l.length) 0 ++ (qdi l.length 8).drop 0
def qox (x : UInt64) (c : UInt8) : UInt64:=x <<< 8 ||| c.toUInt64
def be64 (l : List UInt8) : UInt64:=l.foldl qox 0
def qcc (l : List UInt8) : List UInt64:=(List.range 16).map fun i=>be64 ((l.drop (i * 8)).take 8)
def qfp (ks : List UInt64) : Nat→List UInt8→St64→St64
 | 0,_,s=>s
 | f + 1,l,s=>qfp ks f (l.drop 128) (qc4 ks (qcc (l.take 128)) s)
theorem qol (l : List UInt8) : (qde l).length = 128 * ((l.length + 1 + zc64 l.length + 16) / 128):=by
 unfold qde
 simp only [List.length_append,List.length_drop,List.length_replicate,List.length_cons,List.length_nil,qfi]
 unfold zc64
 omega
end Go.Cv.Hash
namespace Go.Proofs.YtgeihelkkhjjaaaGreatDoor
open Go.RowKit Go.Cv Go.Cv.Hash Go.Cv.Dig
theorem qbj : RowT Tryz.prog 23 5 1:=RowT.of (z:=.int .u8 0) Tryz.underlying23 (by kernel_rfl) rfl
theorem infoB64 : (Tryz.prog.info? 5).map (fun i=>(i.zero,i.size,i.bytes)) = some (some (.int .u8 0),1,1):=by kernel_rfl
theorem infoW64 : (Tryz.prog.info? 73).map (fun i=>(i.zero,i.size,i.bytes)) = some (some (.int .u64 0),1,8):=by kernel_rfl
theorem qpy (w : World) (xs : List Value) (t : TypeId) : Rd (w.alloc (.cells xs.toArray t)) (some ⟨w.heap.size,0,none⟩) xs:=Rd.of_cells fun j u hu=>by
 rw [show (Addr.add ⟨w.heap.size,0,none⟩ j) = ⟨w.heap.size,j,none⟩ from by unfold Addr.add;split <;> simp_all]
 rw [World.cell?_alloc_at _ _ _ _ rfl]
 simpa using hu
theorem qod {w w' : World} {base : Nat} {e : TypeId} {sz n : Nat} {v : Value} {xs : List Value} {bs : List Nat} (h : w.ownsRow base e sz v n xs) (hk : Keep bs w w') (hb : ∀ g,v.ownBlock = some g→g ∉ bs) : w'.ownsRow base e sz v n xs:=by
 refine ⟨h.1,?_⟩
 rcases h.2 with h2 | ⟨g,cap,cur,hv,hg,hgg,r⟩
 ·exact .inl h2
 ·exact .inr ⟨g,cap,cur,hv,hg,hk.row hgg (hb g (by rw [hv];rfl)),r⟩
theorem made64 (n : Nat) (v : Value) : madeCells #[v] n = (List.replicate n v).toArray:=by
 apply Array.ext
 ·simp [madeCells]
 ·intro i h1 h2
  simp [madeCells,Nat.mod_one]
theorem qhc {A : Option Addr} {l m s : Nat} {ad : Addr} (h : cutA A l m s = some ad) : ∃ a0,A = some a0∧ad.block = a0.block:=by
 unfold cutA at h
 split at h
 ·exact ⟨ad,h,rfl⟩
 ·cases A with
  | none=>cases h
  | some a0 =>
   injection h with h
   exact ⟨a0,rfl,by rw [← h,add_block]⟩
theorem Rd.ofRow64 {w : World} {b : Nat} {T : TypeId} {cs : List Value} (h : Row w b T cs) (k : Nat) : Rd w (some ⟨b,k,none⟩) (cs.drop k):=Rd.of_cells fun j u hu=>by
 rw [show (Addr.add ⟨b,k,none⟩ j) = ⟨b,k + j,none⟩ from by unfold Addr.add;split <;> simp_all]
 rw [List.getElem?_drop] at hu
 obtain ⟨hlt,e⟩:=List.getElem?_eq_some_iff.1 hu
 rw [h.cell hlt,e]
theorem sum_64 (A : Option Addr) (n c : Nat) (l : List UInt8) (s0 : St64) (ka : Addr) (kc : Nat) (ks : List UInt64) (w : World) (hl : l.length = n) (hnc : n ≤ c) (hr : Rd w A (l.map bv)) (bnd : n ≤ 5000000) (hkl : ks.length = 80) (hk : Rd w (some ka) (ks.map wv64)) :
  Calls Tryz.prog 69 #[.slice A n c,.int .i64 8,.agg #[.int .u64 (n64 s0.a),.int .u64 (n64 s0.b),.int .u64 (n64 s0.c),.int .u64 (n64 s0.d),.int .u64 (n64 s0.e),.int .u64 (n64 s0.f),.int .u64 (n64 s0.g),.int .u64 (n64 s0.h)],.slice (some ka) 80 kc,.agg #[.int .i64 1,.int .i64 8,.int .i64 7,.int .i64 19,.int .i64 61,.int .i64 6,.int .i64 28,.int .i64 34,.int .i64 39,.int .i64 14,.int .i64 18,.int .i64 41]] w fun e w' =>
   e = .returned (.agg ((qfp ks ((qde l).length / 128) (qde l) s0).l.map wv64).toArray)∧Ext w w':=by
 obtain ⟨iB,hiB,hzB,hsB,hbB⟩:=info_parts infoB64
 obtain ⟨iW,hiW,hzW,hsW,hbW⟩:=info_parts infoW64
 have HL:=Lib.hid hl
 have h128 : ∀ w : World,Rd (w.alloc (.cells #[.int .u8 128] 5)) (some ⟨w.heap.size,0,none⟩) (([128] : List UInt8).map bv):=fun w=>qpy w [.int .u8 128] _
 have h000 : ∀ w : World,Rd (w.alloc (.cells #[.int .u8 0] 5)) (some ⟨w.heap.size,0,none⟩) (([0] : List UInt8).map bv):=fun w=>qpy w [.int .u8 0] _
 obtain ⟨F,hF0⟩ : ∃ F,F = (qde l).length / 128:=⟨_,rfl⟩
 obtain ⟨TG,hTG0⟩ : ∃ TG,TG = qfp ks F (qde l) s0:=⟨_,rfl⟩
 rw [← hF0,← hTG0]
 have hFx:=Lib.hid hF0
 have hTGx:=Lib.hid hTG0
 clear hF0 hTG0
 go_enter Tryz.func69,Tryz.ntmps69
 go_wp2
 obtain ⟨W0,hW0⟩ : ∃ W0,W0 = ((w.alloc (.cells #[.int .u64 (n64 s0.a),.int .u64 (n64 s0.b),.int .u64 (n64 s0.c),.int .u64 (n64 s0.d),.int .u64 (n64 s0.e),.int .u64 (n64 s0.f),.int .u64 (n64 s0.g),.int .u64 (n64 s0.h)] 95)).alloc (.cells #[.int .i64 1,.int .i64 8,.int .i64 7,.int .i64 19,.int .i64 61,.int .i64 6,.int .i64 28,.int .i64 34,.int .i64 39,.int .i64 14,.int .i64 18,.int .i64 41] 94)).alloc (.cells #[.int .u64 0,.int .u64 0,.int .u64 0,.int .u64 0,.int .u64 0,.int .u64 0,.int .u64 0,.int .u64 0] 95):=⟨_,rfl⟩
 rw [← hW0]
 have hx0 : Ext w W0:=by rw [hW0];exact (qaa _ _).trans ((qaa _ _).trans (qaa _ _))
 obtain ⟨bh,hbh⟩ : ∃ b,b = w.heap.size:=⟨_,rfl⟩
 obtain ⟨bt,hbt⟩ : ∃ b,b = w.heap.size + 1:=⟨_,rfl⟩
 obtain ⟨bo,hbo⟩ : ∃ b,b = w.heap.size + 1 + 1:=⟨_,rfl⟩
 have hRh : Row W0 bh 95 (s0.l.map wv64):=by
  rw [hW0,hbh]
  exact ((Row.alloc w (s0.l.map wv64) _).ext (qaa _ _)).ext (qaa _ _)
 have hRt : Row W0 bt 94 [.int .i64 1,.int .i64 8,.int .i64 7,.int .i64 19,.int .i64 61,.int .i64 6,.int .i64 28,.int .i64 34,.int .i64 39,.int .i64 14,.int .i64 18,.int .i64 41]:=by
  rw [hW0,hbt]
  have:=(Row.alloc (w.alloc (.cells #[.int .u64 (n64 s0.a),.int .u64 (n64 s0.b),.int .u64 (n64 s0.c),.int .u64 (n64 s0.d),.int .u64 (n64 s0.e),.int .u64 (n64 s0.f),.int .u64 (n64 s0.g),.int .u64 (n64 s0.h)] 95)) [.int .i64 1,.int .i64 8,.int .i64 7,.int .i64 19,.int .i64 61,.int .i64 6,.int .i64 28,.int .i64 34,.int .i64 39,.int .i64 14,.int .i64 18,.int .i64 41] 94).ext (qaa _ (.cells #[.int .u64 0,.int .u64 0,.int .u64 0,.int .u64 0,.int .u64 0,.int .u64 0,.int .u64 0,.int .u64 0] 95))
  simpa using this
 have hRo : Row W0 bo 95 ((#[.int .u64 0,.int .u64 0,.int .u64 0,.int .u64 0,.int .u64 0,.int .u64 0,.int .u64 0,.int .u64 0] : Array Value).toList):=by
  rw [hW0,hbo]
  have:=Row.alloc ((w.alloc (.cells #[.int .u64 (n64 s0.a),.int .u64 (n64 s0.b),.int .u64 (n64 s0.c),.int .u64 (n64 s0.d),.int .u64 (n64 s0.e),.int .u64 (n64 s0.f),.int .u64 (n64 s0.g),.int .u64 (n64 s0.h)] 95)).alloc (.cells #[.int .i64 1,.int .i64 8,.int .i64 7,.int .i64 19,.int .i64 61,.int .i64 6,.int .i64 28,.int .i64 34,.int .i64 39,.int .i64 14,.int .i64 18,.int .i64 41] 94)) ((#[.int .u64 0,.int .u64 0,.int .u64 0,.int .u64 0,.int .u64 0,.int .u64 0,.int .u64 0,.int .u64 0] : Array Value).toList) 95
  simpa using this
 have hlW0 : bo < W0.heap.size:=hRo.lt
 rw [← hbo,← hbt,← hbh]
 obtain ⟨w2,hmk,ho2,hg2⟩:=run_make_own (P:=Tryz.prog) W0 W0.heap.size 23 5 iB (.int .u8 0) 1 Tryz.underlying23 hiB hzB hsB .i64 .i64 (n + 264) (by rw [hbB];omega) (by unfold maxLen;omega) (Nat.le_refl _)
 replace hmk : (Instr.makeSlice 23 (.int .i64 0) (.int .i64 ((n : Int) + 264))).run Tryz.prog W0 = .ok (.slice (some ⟨W0.heap.size,0,none⟩) 0 (n + 264)) w2:=hmk
 have hx2 : Ext W0 w2:=Below.grown (Below.refl _ _) hg2 (Nat.le_refl _) (fun k hk=>by cases hk)
 have hbhB : w.heap.size ≤ bh:=by omega
 have hbtB : w.heap.size ≤ bt:=by omega
 have hboB : w.heap.size ≤ bo:=by omega
 have nht : bh ≠ bt:=by omega
 have nho : bh ≠ bo:=by omega
 have nto : bt ≠ bo:=by omega
 have hhl : bh < W0.heap.size:=by omega
 have htl : bt < W0.heap.size:=by omega
 clear hW0 hbh hbt hbo
 rw [hmk]
 simp only [Result.andThen]
 rw [Oper.upon_value]
 have hr2:=hr.ext (hx0.trans hx2)
 obtain ⟨gb,hgb⟩ : ∃ g,g = W0.heap.size:=⟨_,rfl⟩
 rw [← hgb] at ho2 hmk
 have hsz2:=hx2.size
 rw [← hgb]
 have hgx:=Lib.hid hgb
 have hgB : bo < gb:=by omega
 have hbhg : bh < gb:=by omega
 have hbtg : bt < gb:=by omega
 have hsz2' : gb ≤ w2.heap.size:=by omega
 clear hmk hg2 hgb
 go_wp2_with (first
  | (at_builtin;refine qbh rfl (.tmp 27) (.tmp 28) 23 5 rfl qbj gb _ 0 [] rfl ho2 A n c l rfl hl hr2 (by omega) (by omega) ?_;intro A3 c3 w3 ho3 hc3 hm3 hr3 hE3;have hx3:=hE3 W0 hx2 (Nat.le_of_eq hgx.out.symm);have hsz3 : gb ≤ w3.heap.size:=(by have:=hx3.size;have:=hgx.out;omega);rw [Nat.zero_add,List.nil_append] at ho3;clear hE3)
  | (at_builtin;refine qbh rfl (.tmp 29) (.tmp 30) 23 5 rfl qbj gb _ n l rfl (qbc ho3 (qaa _ _)) (some _) 1 1 [128] rfl rfl (h128 w3) (by omega) (by simp;omega) ?_;intro A4 c4 w4 ho4 hc4 hm4 hr4 hE4;have hx4:=hE4 W0 (hx3.trans (qaa _ _)) (Nat.le_of_eq hgx.out.symm);clear hE4))
 obtain ⟨Z,hZ⟩ : ∃ Z,Z = zc64 n:=⟨_,rfl⟩
 have hZB : Z < 128:=by rw [hZ];unfold zc64;omega
 have hZ0 : (n + 1 + Z + 16) % 128 = 0:=by rw [hZ];unfold zc64;omega
 have hZ1 : ∀ j,j < Z→¬ (n + 1 + j + 16) % 128 = 0:=fun j hj=>by rw [hZ] at hj;unfold zc64 at hj;omega
 have hZx:=Lib.hid hZ
 clear hZ ho2 hr3 hr4
 go_loopw [12] (fun t12 wr=>∃ (j q : Nat),Hid (q = n + 1 + j)∧j ≤ Z∧wr.ownsRow gb 5 1 t12 q ((l ++ [128] ++ List.replicate j 0).map bv)∧Ext W0 wr) (fun t12 _=>match t12 with | .slice _ k _=>n + 1 + Z - k | _=>0)
 case atStart=>exact ⟨0,n + 1,Lib.hid rfl,Nat.zero_le _,by simpa using ho4,hx4⟩
 case round =>
  obtain ⟨j,q,hqx,hjZ,ho,hE⟩:=hrel
  have hq:=hqx.out
  obtain ⟨C,cc,rfl,hqc,hcm,hrd,-⟩:=qcn ho
  have hszE : gb ≤ wr.heap.size:=by have:=hE.size;have:=hgx.out;omega
  by_cases hjz : j < Z
  ·have hne:=hZ1 j hjz
   have m1 : (((q : Int) + 16) % 128 != 0) = true:=by
    rw [bne_iff_ne];omega
   have m2 : ¬ ((q : Int) + 16) % 128 = 0:=by omega
   have m3 : ¬ ((q : Int) + 16).tmod 128 = 0:=by rw [Int.tmod_eq_emod_of_nonneg (by omega)];omega
   have hrep : Hid (l ++ [128] ++ List.replicate (j + 1) 0 = (l ++ [128] ++ List.replicate j 0) ++ [0]):=Lib.hid (by rw [List.replicate_succ'];simp)
   have hq2 : Hid (q + 1 = n + 1 + (j + 1)):=Lib.hid (by omega)
   have hqb : q ≤ 5000200:=by omega
   have hqm : n + 1 + Z - (q + 1) < n + 1 + Z - q:=by omega
   clear hne hrd hq
   generalize l ++ [128] ++ List.replicate j 0 = lj at *
   go_wp2_with (at_builtin;refine qbh rfl (.tmp 41) (.tmp 42) 23 5 rfl qbj gb _ q lj rfl (qbc ho (qaa _ _)) (some _) 1 1 [0] rfl rfl (h000 wr) (by omega) (by simp;omega) ?_;intro A5 c5 w5 ho5 hc5 hm5 hr5 hE5;have hx5:=hE5 W0 (hE.trans (qaa _ _)) (Nat.le_of_eq hgx.out.symm);clear hE5)
   exact ⟨⟨j + 1,q + 1,hq2,by omega,by rw [hrep.out];exact ho5,hx5⟩,by simpa using hqm⟩
  ·obtain rfl : j = Z:=by omega
   have m1 : (((q : Int) + 16) % 128 != 0) = false:=by
    rw [bne_eq_false_iff_eq];omega
   have m2 : ((q : Int) + 16) % 128 = 0:=by omega
   have m3 : ((q : Int) + 16).tmod 128 = 0:=by rw [Int.tmod_eq_emod_of_nonneg (by omega)];omega
   have hqb : q ≤ 5000200:=by omega
   clear hZ1 hq hZ0
   go_wp2
   obtain ⟨W5,hW5⟩ : ∃ W5,W5 = wr.alloc (.cells #[.int .u8 0,.int .u8 0,.int .u8 0,.int .u8 0,.int .u8 0,.int .u8 0,.int .u8 0,.int .u8 (n8 (u64 (n : Int) >>> 61).toUInt8),.int .u8 0,.int .u8 0,.int .u8 0,.int .u8 0,.int .u8 0,.int .u8 0,.int .u8 0,.int .u8 0] 122):=⟨_,rfl⟩
   obtain ⟨bm,hbm⟩ : ∃ bm,bm = wr.heap.size:=⟨_,rfl⟩
   rw [← hW5,← hbm]
   have hRm : Row W5 bm 122 ((qdi n 0).map bv):=by
    rw [hW5,hbm]
    exact Row.alloc wr [.int .u8 0,.int .u8 0,.int .u8 0,.int .u8 0,.int .u8 0,.int .u8 0,.int .u8 0,.int .u8 (n8 (u64 (n : Int) >>> 61).toUInt8),.int .u8 0,.int .u8 0,.int .u8 0,.int .u8 0,.int .u8 0,.int .u8 0,.int .u8 0,.int .u8 0] _
   have hx5 : Ext wr W5:=by rw [hW5];exact qaa _ _
   have hbm2 : gb ≤ bm:=by omega
   have hmg : ∀ ad,C = some ad→ad.block < bm:=fun ad ha=>by
    have:=ho.lt ad.block (by rw [ha];rfl)
    omega
   have ho5:=qbc ho hx5
   have hx05:=hE.trans hx5
   clear hW5 hbm ho hrd
   go_loopw [48] (fun t48 wr=>∃ i : Nat,i ≤ 8∧t48 = .int .i64 i∧Row wr bm 122 ((qdi n i).map bv)∧Keep [bm] W5 wr) (fun t48 _=>8 - (intOf t48).toNat)
   case atStart=>exact ⟨0,by decide,rfl,hRm,Keep.refl _ _⟩
   case round =>
    obtain ⟨i,hi,rfl,hRm,hKm⟩:=hrel
    by_cases hi8 : i < 8
    ·have hi8' : (i : Int) < 8:=by omega
     obtain ⟨e,he⟩ : ∃ e,e = 8 * i:=⟨_,rfl⟩
     obtain ⟨k,hkk⟩ : ∃ k,k = 15 - i:=⟨_,rfl⟩
     have e1 : 8 * (i : Int) = (e : Int):=by omega
     have e2 : 0 ≤ (e : Int):=by omega
     have e3 : (e : Int) ≤ 64:=by omega
     have e4:=qdx (u64 (n : Int) <<< 3) e (by omega)
     have k1 : 15 - (i : Int) = (k : Int):=by omega
     have k2 : 0 ≤ (k : Int)∧(k : Int) < 16:=by omega
     have ck:=hRm.cell (i:=k) (by rw [List.length_map,qfi];omega)
     rw [List.getElem_map] at ck
     have fk:=hRm.fro k
     have hnx : Hid ((qdi n (i + 1)) = (qdi n i).set k ((u64 (n : Int) <<< 3) >>> UInt64.ofNat e).toUInt8):=Lib.hid (by rw [he,hkk];rfl)
     generalize (qdi n i)[k]'_ = mk at *
     clear he hkk
     go_wp2
     refine ⟨⟨i + 1,by omega,by go_num,?_,?_⟩,by simp [intOf];omega⟩
     ·rw [hnx.out,List.map_set]
      exact hRm.set k _
     ·exact hKm.same (Keep.setCell _ ⟨bm,k,none⟩ _)
    ·obtain rfl : i = 8:=by omega
     have hx06 : Ext W0 wr:=Below.trans hx05 (hKm.below (fun x hx=>by simp at hx;have:=hgx.out;omega) hx05.size)
     have ho6:=qod ho5 hKm (fun g hg=>by
      cases C with
      | none=>cases hg
      | some ad =>
       injection hg with hg
       have:=hmg ad rfl
       simp
       omega)
     have hrn : Rd wr (some ⟨bm,0,none⟩) (((qdi n 8).drop 0).map bv):=by
      rw [List.map_drop]
      exact Rd.ofRow64 hRm 0
     have hnl : ((qdi n 8).drop 0).length = 16:=by rw [List.length_drop,qfi]
     have hfull : Hid ((l ++ [128] ++ List.replicate j 0) ++ (qdi n 8).drop 0 = qde l):=Lib.hid (by unfold qde;rw [HL.out,hZx.out])
     have hszr : gb ≤ wr.heap.size:=by have:=hx06.size;have:=hgx.out;omega
     generalize (qdi n 8).drop 0 = nw at *
     generalize l ++ [128] ++ List.replicate j 0 = lj at *
     clear hKm hRm ho5
     go_wp2_with (at_builtin;refine qbh rfl (.tmp 61) (.tmp 65) 23 5 rfl qbj gb _ q lj rfl ho6 (some ⟨bm,0,none⟩) 16 16 nw rfl hnl hrn (by omega) hszr ?_;intro A6 c6 w6 ho7 hc7 hm7 hr7 hE7;have hx7:=hE7 W0 hx06 (Nat.le_of_eq hgx.out.symm);clear hE7)
     have hmk2:=run_makeSlice (P:=Tryz.prog) w6 71 73 iW (.int .u64 0) Tryz.underlying71 hiW hzW .i64 .i64 80 80 (by decide) (by decide) (by rw [hsW];decide) (by rw [hbW];decide) (by decide)
     rw [hsW] at hmk2
     obtain ⟨W7,hW7⟩ : ∃ W7,W7 = w6.alloc (.cells (madeCells (Value.int .u64 0).cells (((80 : Int)).toNat * 1)) 73):=⟨_,rfl⟩
     rw [← hW7] at hmk2
     obtain ⟨bw,hbw⟩ : ∃ bw,bw = w6.heap.size:=⟨_,rfl⟩
     rw [← hbw] at hmk2
     have hRw : Row W7 bw 73 ((List.replicate 80 (0 : UInt64)).map wv64):=by
      rw [hW7,hbw,show (Value.int .u64 0).cells = #[Value.int .u64 0] from rfl,made64]
      rw [List.map_replicate]
      exact Row.alloc w6 _ _
     have hx67 : Ext w6 W7:=by rw [hW7];exact qaa _ _
     have hbwg : gb ≤ bw:=by have:=hx7.size;have:=hgx.out;omega
     have hfb : ∀ ad,A6 = some ad→ad.block ≠ bh∧ad.block ≠ bw:=fun ad ha=>by
      have:=ho7.lt ad.block (by rw [ha];rfl)
      omega
     have hrf:=hr7.ext hx67
     rw [hfull.out] at hrf
     have hlf : (qde l).length = q + 16:=by
      have h1:=congrArg List.length hfull.out
      rw [List.length_append,hnl] at h1
      have h2:=ho7.1
      rw [← h1]
      have h3 : lj.length = q:=by
       have:=ho6.1
       simpa using this
      omega
     have hx70 : Ext W0 W7:=hx7.trans hx67
     have hmB:=qol l
     rw [hlf] at hmB
     have hF:=hFx.out
     have hqF : q + 16 = 128 * F:=by rw [hF,hlf];omega
     have nbw : bh ≠ bw:=by omega
     have nbt : bt ≠ bw:=by omega
     have nbo : bo ≠ bw:=by omega
     have hRh7:=hRh.ext hx70
     have hRt7:=hRt.ext hx70
     have hRo7:=hRo.ext hx70
     have hk7:=(hk.ext hx0).ext hx70
     have hkb : ka.block ≠ bh∧ka.block ≠ bw:=by
      obtain ⟨ad,e,hc⟩:=hk.at_ (k:=0) (by rw [List.length_map,hkl];decide)
      injection e with e
      subst e
      have h1:=World.block_lt_of_cell? w _ hc
      rw [add_block] at h1
      omega
     obtain ⟨q7,hq7⟩ : ∃ q7,q7 = q + 16:=⟨_,rfl⟩
     rw [← hq7] at hlf hqF hc7
     have hlfx:=Lib.hid hlf
     have hqFx:=Lib.hid hqF
     clear hW7 hbw hF hmB hlf hqF
     rw [show ((80 : Int)).toNat = 80 from rfl] at hmk2
     rw [hmk2]
     simp only [Result.andThen]
     rw [Oper.upon_value]
     rw [← hq7]
     clear hmk2 hq7 ho6 ho7 hrn hnl hfull
     go_wp2
     go_loopw [12] (fun t12 wr=>∃ (f : Nat) (A' : Option Addr) (q' c' : Nat) (rem : List UInt8) (s : St64) (ws : List UInt64),t12 = .slice A' q' c'∧rem.length = q'∧q' ≤ c'∧Hid (q' = 128 * f)∧Rd wr A' (rem.map bv)∧Hid (∀ ad,A' = some ad→ad.block ≠ bh∧ad.block ≠ bw)∧ws.length = 80∧Row wr bw 73 (ws.map wv64)∧Row wr bh 95 (s.l.map wv64)∧Hid (qfp ks f rem s = TG)∧Keep [bh,bw] W7 wr) (fun t12 _=>match t12 with | .slice _ k _=>k | _=>0)
     case atStart=>exact ⟨F,A6,q7,c6,qde l,s0,List.replicate 80 0,rfl,hlfx.out,hc7,hqFx,hrf,Lib.hid hfb,by simp,hRw,hRh7,Lib.hid hTGx.out.symm,Keep.refl _ _⟩
     case round =>
      obtain ⟨f,A',q',c',rem,s,ws,rfl,hrl,hqc',hqf,hrd,hfb',hwl,hRw,hRh,hsm,hK7⟩:=hrel
      rcases f with _ | f
      ·obtain rfl : q' = 0:=hqf.out
       have hs : s = TG:=hsm.out
       have hRo:=hRo7.keep hK7 (by simp;omega)
       have hc0 : wr.cell? ⟨bh,0,none⟩ = some (.int .u64 (n64 s.a)):=(hRh.cell (i:=0) (by simp [St64.l])).trans rfl
       have ho20 : wr.cell? ⟨bo,0,none⟩ = some (.int .u64 0):=(hRo.cell (i:=0) (by simp)).trans rfl
       have hfo0:=hRo.fro 0
       have hc1 : wr.cell? ⟨bh,1,none⟩ = some (.int .u64 (n64 s.b)):=(hRh.cell (i:=1) (by simp [St64.l])).trans rfl
       have ho21 : wr.cell? ⟨bo,1,none⟩ = some (.int .u64 0):=(hRo.cell (i:=1) (by simp)).trans rfl
       have hfo1:=hRo.fro 1
       have hc2 : wr.cell? ⟨bh,2,none⟩ = some (.int .u64 (n64 s.c)):=(hRh.cell (i:=2) (by simp [St64.l])).trans rfl
       have ho22 : wr.cell? ⟨bo,2,none⟩ = some (.int .u64 0):=(hRo.cell (i:=2) (by simp)).trans rfl
       have hfo2:=hRo.fro 2
       have hc3 : wr.cell? ⟨bh,3,none⟩ = some (.int .u64 (n64 s.d)):=(hRh.cell (i:=3) (by simp [St64.l])).trans rfl
       have ho23 : wr.cell? ⟨bo,3,none⟩ = some (.int .u64 0):=(hRo.cell (i:=3) (by simp)).trans rfl
       have hfo3:=hRo.fro 3
       have hc4 : wr.cell? ⟨bh,4,none⟩ = some (.int .u64 (n64 s.e)):=(hRh.cell (i:=4) (by simp [St64.l])).trans rfl
       have ho24 : wr.cell? ⟨bo,4,none⟩ = some (.int .u64 0):=(hRo.cell (i:=4) (by simp)).trans rfl
       have hfo4:=hRo.fro 4
       have hc5 : wr.cell? ⟨bh,5,none⟩ = some (.int .u64 (n64 s.f)):=(hRh.cell (i:=5) (by simp [St64.l])).trans rfl
       have ho25 : wr.cell? ⟨bo,5,none⟩ = some (.int .u64 0):=(hRo.cell (i:=5) (by simp)).trans rfl
       have hfo5:=hRo.fro 5
       have hc6 : wr.cell? ⟨bh,6,none⟩ = some (.int .u64 (n64 s.g)):=(hRh.cell (i:=6) (by simp [St64.l])).trans rfl
       have ho26 : wr.cell? ⟨bo,6,none⟩ = some (.int .u64 0):=(hRo.cell (i:=6) (by simp)).trans rfl
       have hfo6:=hRo.fro 6
       have hc7 : wr.cell? ⟨bh,7,none⟩ = some (.int .u64 (n64 s.h)):=(hRh.cell (i:=7) (by simp [St64.l])).trans rfl
       have ho27 : wr.cell? ⟨bo,7,none⟩ = some (.int .u64 0):=(hRo.cell (i:=7) (by simp)).trans rfl
       have hfo7:=hRo.fro 7
       clear hsm
       go_wp2
       refine bodyPost_ret (results_cell_row (p:=10) (ty:=95) rfl _ _ bo 95 ((TG.l.map wv64).toArray) (0,0) _ ?_ ?_ Tryz.underlying95 rfl (by kernel_rfl)) rfl ⟨?_,?_⟩
       ·rfl
       ·rw [← hs]
        exact (Row.set (Row.set (Row.set (Row.set (Row.set (Row.set (Row.set (Row.set hRo 0 _) 1 _) 2 _) 3 _) 4 _) 5 _) 6 _) 7 _)
       ·rfl
       ·refine Below.trans (hx0.trans hx70) ?_
        refine Below.trans (hK7.below (fun x hx=>by simp at hx;omega) (hx0.trans hx70).size) ?_
        exact Below.setCell (B:=w.heap.size) (Below.setCell (B:=w.heap.size) (Below.setCell (B:=w.heap.size) (Below.setCell (B:=w.heap.size) (Below.setCell (B:=w.heap.size) (Below.setCell (B:=w.heap.size) (Below.setCell (B:=w.heap.size) (Below.setCell (B:=w.heap.size) (Below.refl _ _) (p:=⟨bo,0,none⟩) hboB _) (p:=⟨bo,1,none⟩) hboB _) (p:=⟨bo,2,none⟩) hboB _) (p:=⟨bo,3,none⟩) hboB _) (p:=⟨bo,4,none⟩) hboB _) (p:=⟨bo,5,none⟩) hboB _) (p:=⟨bo,6,none⟩) hboB _) (p:=⟨bo,7,none⟩) hboB _
      ·have hq1 : 128 ≤ q':=by have:=hqf.out;omega
       have hq1' : (128 : Int) ≤ (q' : Int):=by omega
       have hq0 : (0 : Int) < (q' : Int):=by omega
       obtain ⟨ad,rfl,-⟩:=hrd.at_ (k:=0) (by rw [List.length_map];omega)
       obtain ⟨hab,haw⟩:=hfb'.out ad rfl
       have hqf2 : Hid (q' - 128 = 128 * f):=Lib.hid (by have:=hqf.out;omega)
       have hsm2:=hsm.out
       replace hsm2 : qfp ks f (rem.drop 128) (qc4 ks (qcc (rem.take 128)) s) = TG:=hsm2
       have hsmx:=Lib.hid hsm2
       have hRlx:=Lib.hid hrl
       have hkr:=hK7.rd hk7 (by simp;exact hkb)
       have hTr:=hRt7.keep hK7 (by simp;omega)
       obtain ⟨W8,hW8⟩ : ∃ W8,W8 = wr:=⟨_,rfl⟩
       subst hW8
       clear hsm hsm2 hqf
       go_wp2
       go_loopw [77] (fun t77 wr=>∃ (i : Nat) (ws : List UInt64),i ≤ 16∧t77 = .int .i64 i∧ws.length = 80∧Row wr bw 73 (ws.map wv64)∧Hid (ws.take i = (qcc (rem.take 128)).take i)∧Keep [bw] W8 wr) (fun t77 _=>16 - (intOf t77).toNat)
       case atStart=>exact ⟨0,ws,by decide,rfl,hwl,hRw,Lib.hid rfl,Keep.refl _ _⟩
       case round =>
        obtain ⟨i,ws,hi,rfl,hwl,hRw,htk,hK8⟩:=hrel
        by_cases hi16 : i < 16
        ·have hi16' : (i : Int) < 16:=by omega
         obtain ⟨lo,hlo⟩ : ∃ lo,lo = i * 8:=⟨_,rfl⟩
         obtain ⟨hh,hhi⟩ : ∃ hh,hh = lo + 8:=⟨_,rfl⟩
         have i1 : (i : Int) * 8 = (lo : Int):=by omega
         have i2 : ((i : Int) + 1) * 8 = (hh : Int):=by omega
         have i3 : (lo : Int) ≤ (hh : Int):=by omega
         have i3' : lo ≤ hh:=by omega
         have i4 : (hh : Int) ≤ (c' : Int):=by omega
         have i4' : hh ≤ c':=by omega
         have i5 : hh - lo = 8:=by omega
         have ci:=hRw.cell (i:=i) (by rw [List.length_map];omega)
         rw [List.getElem_map] at ci
         have fi:=hRw.fro i
         have bi : 0 ≤ (i : Int)∧(i : Int) < 80:=by omega
         have hrdw:=hK8.rd hrd (by simp;exact haw)
         have hcut:=Rd.cutA_ (l:=lo) (m:=c') hrdw (by rw [List.length_map];omega)
         rw [← List.map_drop] at hcut
         obtain ⟨ad2,hA2,-⟩:=hcut.at_ (k:=0) (by rw [List.length_map,List.length_drop];omega)
         rw [hA2] at hcut
         have hab2 : ad2.block ≠ bw:=by
          obtain ⟨a0,e,hb⟩:=qhc hA2
          injection e with e
          subst e
          rw [hb];exact haw
         have hsub : Hid ((qcc (rem.take 128)).take (i + 1) = (qcc (rem.take 128)).take i ++ [be64 ((rem.drop lo).take 8)]):=Lib.hid (by
          have hlw : (qcc (rem.take 128)).length = 16:=by simp [qcc]
          rw [List.take_succ_eq_append_getElem (by omega)]
          congr 2
          simp only [qcc,List.getElem_map,List.getElem_range]
          congr 1
          rw [hlo,List.drop_take,List.take_take]
          congr 1
          omega)
         have hset : Hid (∀ x : UInt64,(ws.set i x).take (i + 1) = ws.take i ++ [x]):=Lib.hid (fun x=>qir ws i x (by omega))
         have hlsub : ((rem.drop lo).take 8).length = 8:=by rw [List.length_take,List.length_drop];omega
         have hdl : ∀ j,j < 8→lo + j < rem.length:=fun j hj=>by omega
         obtain ⟨W9,hW9⟩ : ∃ W9,W9 = wr:=⟨_,rfl⟩
         subst hW9
         generalize ws[i]'_ = wi at *
         clear hlo hhi
         go_wp2
         go_loopw [93] (fun t93 wr=>∃ (j : Nat) (x : UInt64),j ≤ 8∧t93 = .int .i64 j∧Row wr bw 73 ((ws.set i x).map wv64)∧Hid (x = be64 (((rem.drop lo).take 8).take j))∧Keep [bw] W9 wr) (fun t93 _=>8 - (intOf t93).toNat)
         case atStart=>exact ⟨0,0,by decide,rfl,by rw [List.map_set];exact hRw.set i _,Lib.hid rfl,Keep.setCell _ ⟨bw,i,none⟩ _⟩
         case round =>
          obtain ⟨j,x,hj,rfl,hRx,hx,hK9⟩:=hrel
          by_cases hjS : j < 8
          ·have hjS' : (j : Int) < 8:=by omega
           obtain ⟨_,e9,cj⟩:=(hK9.rd hcut (by simpa using hab2)).at_ (k:=j) (by rw [List.length_map,List.length_drop];have:=hdl j hjS;omega)
           injection e9 with e9
           subst e9
           rw [List.getElem_map] at cj
           have cw:=hRx.cell (i:=i) (by rw [List.length_map,List.length_set];omega)
           rw [List.getElem_map,List.getElem_set_self] at cw
           replace cw : wr.cell? ⟨bw,i,none⟩ = some (.int .u64 (n64 x)):=cw
           have fw:=hRx.fro i
           have hsj : ((rem.drop lo).take 8).take (j + 1) = ((rem.drop lo).take 8).take j ++ [(rem.drop lo)[j]'(by rw [List.length_drop];have:=hdl j hjS;omega)]:=by
            rw [List.take_succ_eq_append_getElem (by omega)]
            congr 2
            rw [List.getElem_take]
           have hnx : Hid (qox x ((rem.drop lo)[j]'(by rw [List.length_drop];have:=hdl j hjS;omega)) = be64 (((rem.drop lo).take 8).take (j + 1))):=Lib.hid (by
            rw [hsj,hx.out]
            unfold be64
            rw [List.foldl_append];rfl)
           clear hsj hx
           generalize (rem.drop lo)[j]'_ = cb at *
           go_wp2
           refine ⟨⟨j + 1,qox x cb,by omega,by go_num,?_,hnx,?_⟩,by simp [intOf];omega⟩
           ·have h9:=hRx.set i (wv64 (qox x cb))
            rw [← List.map_set,List.set_set] at h9
            exact h9
           ·exact hK9.same (Keep.setCell _ ⟨bw,i,none⟩ _)
          ·obtain rfl : j = 8:=by omega
           have hx2:=hx.out
           rw [List.take_of_length_le (by omega)] at hx2
           have htk2 : Hid ((ws.set i x).take (i + 1) = (qcc (rem.take 128)).take (i + 1)):=Lib.hid (by rw [hset.out x,hsub.out,htk.out,hx2])
           clear hx hx2 htk
           go_wp2
           exact ⟨⟨i + 1,ws.set i x,by omega,by go_num,by rw [List.length_set];exact hwl,hRx,htk2,hK8.same hK9⟩,by simp [intOf];omega⟩
        ·obtain rfl : i = 16:=by omega
         have hRhw:=hRh.keep hK8 (by simpa using nbw)
         have hkw:=hK8.rd hkr (by simp;exact hkb.2)
         have hTw:=hTr.keep hK8 (by simpa using nbt)
         have hrdw:=hK8.rd hrd (by simp;exact haw)
         have hblk : Hid (qc4 ks ws s = qc4 ks (qcc (rem.take 128)) s):=Lib.hid (by
          unfold qc4
          rw [htk.out])
         have dt0 : wr.cell? ⟨bt,0,none⟩ = some (.int .i64 1):=(hTw.cell (i:=0) (by simp)).trans rfl
         have dt1 : wr.cell? ⟨bt,1,none⟩ = some (.int .i64 8):=(hTw.cell (i:=1) (by simp)).trans rfl
         have dt2 : wr.cell? ⟨bt,2,none⟩ = some (.int .i64 7):=(hTw.cell (i:=2) (by simp)).trans rfl
         have dt3 : wr.cell? ⟨bt,3,none⟩ = some (.int .i64 19):=(hTw.cell (i:=3) (by simp)).trans rfl
         have dt4 : wr.cell? ⟨bt,4,none⟩ = some (.int .i64 61):=(hTw.cell (i:=4) (by simp)).trans rfl
         have dt5 : wr.cell? ⟨bt,5,none⟩ = some (.int .i64 6):=(hTw.cell (i:=5) (by simp)).trans rfl
         have dt6 : wr.cell? ⟨bt,6,none⟩ = some (.int .i64 28):=(hTw.cell (i:=6) (by simp)).trans rfl
         have dt7 : wr.cell? ⟨bt,7,none⟩ = some (.int .i64 34):=(hTw.cell (i:=7) (by simp)).trans rfl
         have dt8 : wr.cell? ⟨bt,8,none⟩ = some (.int .i64 39):=(hTw.cell (i:=8) (by simp)).trans rfl
         have dt9 : wr.cell? ⟨bt,9,none⟩ = some (.int .i64 14):=(hTw.cell (i:=9) (by simp)).trans rfl
         have dt10 : wr.cell? ⟨bt,10,none⟩ = some (.int .i64 18):=(hTw.cell (i:=10) (by simp)).trans rfl
         have dt11 : wr.cell? ⟨bt,11,none⟩ = some (.int .i64 41):=(hTw.cell (i:=11) (by simp)).trans rfl
         have hbc:=block_64 bh bw s ws ka kc ks wr nbw hRhw hRw hwl hkl hkw hkb.1 hkb.2
         clear htk
         go_wp2_with (go_at_call 97;with_reducible refine hbc.mono ?_;rintro e w10 ⟨rfl,hRh10,⟨ws2,hwl2,hRw10⟩,hK10⟩)
         have hrd10:=hK10.rd hrdw (by simp;exact ⟨hab,haw⟩)
         rw [hblk.out] at hRh10
         refine ⟨⟨f,cutA (some ad) 128 c' 1,q' - 128,c' - 128,rem.drop 128,qc4 ks (qcc (rem.take 128)) s,ws2,by simp,by rw [List.length_drop,hRlx.out],by omega,hqf2,?_,Lib.hid ?_,hwl2,hRw10,hRh10,hsmx,?_⟩,by simp;omega⟩
         ·rw [List.map_drop]
          exact Rd.cutA_ hrd10 (by rw [List.length_map];omega)
         ·intro a2 ha2
          obtain ⟨a0,e,hb⟩:=qhc ha2
          injection e with e
          subst e
          rw [hb]
          exact ⟨hab,haw⟩
         ·exact hK7.same ((hK8.mono (fun x hx=>by simp at hx;simp [hx])).same hK10)
end Go.Proofs.YtgeihelkkhjjaaaGreatDoor
