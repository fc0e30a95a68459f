/-
  Texts of the lemmas below the claim, put together: SB SC.
-/
import Derived.Test.YtgeihelkkhjjaaaGreatDoorKSA
import Derived.Deep.RegionLaw
set_option linter.unusedSimpArgs false
set_option linter.unusedVariables false
set_option maxRecDepth 20000
set_option maxHeartbeats 8000000
section
section
namespace Go.Proofs.YtgeihelkkhjjaaaGreatDoor
open Go.RowKit Go.Cv
theorem qp8 (w : World) : Calls Tryz.prog 77 #[] w fun e w'=>e = .returned (.agg (w4 (Lw 0) (Lw 1) (Lw 2) (Lw 3)))∧Ext w w':=by
 go_enter Tryz.func77,Tryz.ntmps77
 go_wp2
 refine bodyPost_ret_by (by simp [results,Tryz.results77,go_sem];rfl) rfl ?_
 exact ⟨rfl,qaa _ _⟩
theorem qjj (A : Option Addr) (m c : Nat) (ws : List UInt64) (w : World) (hws : ws.length = m) (hr : Rd w A (ws.map wq)) (bnd : m ≤ 16) :
  Calls Tryz.prog 49 #[.slice A m c] w fun e w'=>e = .returned (.agg (qab (nb (wsum ws % ordN))))∧Ext w w':=by
 have HW:=Lib.hid hws
 clear hws
 obtain ⟨N,hN⟩ : ∃ N,N = wsum ws:=⟨_,rfl⟩
 have hNx:=Lib.hid hN
 rw [← hN]
 have hN0 : N / 2 ^ (64 * m) = 0:=Nat.div_eq_of_lt (by rw [hN,← HW.out];exact qoz ws)
 clear hN
 go_enter Tryz.func49,Tryz.ntmps49
 go_upto_region 1 with fail
 obtain ⟨W0,hW0⟩ : ∃ W0,W0 = w.alloc (.cells (qab fun _=>0) 22):=⟨_,rfl⟩
 obtain ⟨br,hbr⟩ : ∃ b,b = w.heap.size:=⟨_,rfl⟩
 rw [← hW0,← hbr]
 have hx0 : Ext w W0:=by rw [hW0];exact qaa _ _
 have hRr : RV W0 br 22 (fun u=>u = .agg (qab fun _=>0)):=⟨(qab fun _=>0).toList,by rw [hW0,hbr];have:=Row.alloc w (qab fun _=>0).toList 22;rwa [Array.toArray_toList] at this,by rw [Array.toArray_toList]⟩
 have hbw : w.heap.size ≤ br:=by omega
 clear hW0 hbr
 go_upto_region 4 with (go_at_call 77;with_reducible refine (qp8 W0).mono ?_;rintro e w1 ⟨rfl,hx1⟩)
 obtain ⟨W1,hW1⟩ : ∃ W1,W1 = w1.alloc (.cells (w4 (Lw 0) (Lw 1) (Lw 2) (Lw 3)) 100):=⟨_,rfl⟩
 obtain ⟨bl,hbl⟩ : ∃ b,b = w1.heap.size:=⟨_,rfl⟩
 rw [← hW1,← hbl]
 obtain ⟨W,hW⟩ : ∃ W,W = W1.alloc (.cells #[.int .u64 0,.int .u64 0,.int .u64 0,.int .u64 0] 100):=⟨_,rfl⟩
 have hs1 : W1.heap.size = bl + 1:=by rw [hW1,hbl];exact Array.size_push _
 obtain ⟨b4,hb4⟩ : ∃ b,b = bl + 1:=⟨_,rfl⟩
 rw [← hW,← hb4]
 rw [← hb4] at hs1
 have hx2 : Ext w1 W1:=by rw [hW1];exact qaa _ _
 have hx3 : Ext W1 W:=by rw [hW];exact qaa _ _
 have hRl : Row W bl 100 (rw4 Lw):=by
  refine Row.ext ?_ hx3
  rw [hW1,hbl];exact Row.alloc w1 (rw4 Lw) _
 have hR4 : Row W b4 100 (rw4 fun _=>0):=by rw [hW,← hs1];exact Row.alloc W1 (rw4 fun _=>0) _
 have hx : Ext w W:=hx0.trans (hx1.trans (hx2.trans hx3))
 have hbl0 : br < bl:=by have:=hRr.lt;have h:=hx1.size;omega
 have hb4w : w.heap.size ≤ b4:=by omega
 have n1 : br ≠ b4:=by omega
 have n2 : bl ≠ b4:=by omega
 replace hRr:=((hRr.ext hx1).ext hx2).ext hx3
 clear hW hW1 hbl hs1 hb4 hx0 hx1 hx2 hx3
 go_loopw [5] (fun v5 wr=>∃ (k : Nat) (x : Int) (a : Nat→UInt64),k ≤ 64 * m∧v5 = .int .i64 x∧Hid (x + 1 = (k : Int))∧Row wr b4 100 (rw4 a)∧Hid (v4 a = N / 2 ^ k % ordN)∧Keep [b4] W wr) (fun v5 _=>(intOf v5 + 1).toNat)
 case atStart=>exact ⟨64 * m,_,fun _=>0,Nat.le_refl _,rfl,Lib.hid (by push_cast;omega),hR4,Lib.hid (by rw [hN0];rfl),Keep.refl _ _⟩
 case round =>
  clear hR4 hN0
  obtain ⟨k,x,a,hk,rfl,hxk,hR,hv,hK⟩:=hrel
  have hxw : Ext w wr:=Ext.keep_ hx hK (by simpa using hb4w)
  have hRl2:=hRl.keep hK (by simpa using n2)
  have hRr2:=hRr.keep hK (by simpa using n1)
  have hxk':=hxk.out
  by_cases hx0 : 0 ≤ x
  ·obtain ⟨i,rfl⟩ : ∃ i : Nat,x = (i : Int):=⟨x.toNat,by omega⟩
   have hki : k = i + 1:=by omega
   obtain ⟨q,hq⟩ : ∃ q,q = i / 64:=⟨_,rfl⟩
   obtain ⟨t,ht⟩ : ∃ t,t = i % 64:=⟨_,rfl⟩
   have hqm : q < m:=by omega
   have hqmI : (q : Int) < (m : Int):=by omega
   have hq0 : 0 ≤ (q : Int):=by omega
   have ht0 : 0 ≤ (t : Int):=by omega
   have ht64 : t < 64:=by omega
   have ht64I : (t : Int) < 64:=by omega
   have d1 : (i : Int) / 64 = (q : Int):=by omega
   have d2 : (i : Int).tdiv 64 = (q : Int):=by rw [Int.tdiv_eq_ediv_of_nonneg (by omega)];omega
   have r1 : (i : Int) % 64 = (t : Int):=by omega
   have r2 : (i : Int).tmod 64 = (t : Int):=by rw [Int.tmod_eq_emod_of_nonneg (by omega)];omega
   have hqw : q < ws.length:=by rw [HW.out];exact hqm
   obtain ⟨ad,rfl,hcell⟩:=(hr.ext hxw).at_ (k:=q) (by rw [List.length_map];exact hqw)
   rw [List.getElem_map] at hcell
   have hgd : ws.getD q 0 = ws[q]'hqw:=by simp [List.getD,List.getElem?_eq_getElem hqw]
   have hbit : N / 2 ^ i % 2 = (ws[q]'hqw).toNat / 2 ^ t % 2:=by
    rw [hNx.out,← hgd,← qmn ws q t ht64]
    congr 3
    omega
   generalize ws[q]'hqw = y at *
   have hcell2 : wr.cell? (ad.add q) = some (.int .u64 (n64 y)):=hcell
   have hsh:=shr_q y t ht64
   obtain ⟨B,hB⟩ : ∃ B,B = (y >>> UInt64.ofNat t &&& 1):=⟨_,rfl⟩
   have hB1 : B.toNat = N / 2 ^ i % 2:=by rw [hB,bit_q y t ht64,hbit]
   have hBle : B.toNat ≤ 1:=by omega
   have hvn : v4 (shn a B) = 2 * v4 a + B.toNat:=shn_val a B hBle (by
    rw [hv.out]
    have h9 : N / 2 ^ k % ordN < ordN:=Nat.mod_lt _ (by decide)
    have h8 : ordN < 2 ^ 255:=by decide
    omega)
   have hfin : v4 (if lsb (shn a B) 4 then shn a B else lsn (shn a B)) = N / 2 ^ i % ordN:=by
    rw [rest_step (N:=N / 2 ^ k) (r:=0) hv.out hBle hvn,hB1,hki,← qn4]
   have hfx:=Lib.hid hfin
   have hBx:=Lib.hid hB
   have hi64 : i < 1024:=by omega
   have hx4 : Hid ((i : Int) - 1 + 1 = (i : Int)):=Lib.hid (by omega)
   have hil : i ≤ 64 * m:=by omega
   have hv1 : IntKind.i64.wrap ((i : Int) - 1) = (i : Int) - 1:=IntWalk.i64_in _ (by omega)
   clear hvn hfin hB hbit hgd hv hq ht hki hxk' hB1 hcell
   obtain ⟨W2,hW2⟩ : ∃ W2,W2 = wr:=⟨_,rfl⟩
   subst hW2
   go_upto_region 8 with fail
   rw [← hBx.out]
   go_loopw [31,6] (fun v31 v6 wr=>∃ j : Nat,j ≤ 4∧v31 = .int .i64 j∧v6 = .int .u64 (n64 (shc a B j))∧Row wr b4 100 (rw4 (mixw j (shn a B) a))∧Keep [b4] W2 wr) (fun v31 _ _=>4 - (intOf v31).toNat)
   case atStart=>exact ⟨0,by decide,rfl,rfl,by rw [qm9];exact hR,Keep.refl _ _⟩
   case round =>
    clear hR
    obtain ⟨j,hj,rfl,rfl,hR,hKj⟩:=hrel
    by_cases hj4 : j < 4
    ·have hj4I : (j : Int) < 4:=by omega
     have hj0 : 0 ≤ (j : Int):=by omega
     have cj : wr.cell? ⟨b4,j,none⟩ = some (.int .u64 (n64 (a j))):=by
      rw [hR.q hj4,mix_at]
     have fj:=hR.fro j
     have hR2:=hR.set j (.int .u64 (n64 (a j <<< 1 ||| shc a B j)))
     have hset : (rw4 (mixw j (shn a B) a)).set j (.int .u64 (n64 (a j <<< 1 ||| shc a B j))) = rw4 (mixw (j + 1) (shn a B) a):=qpm (shn a B) a hj4
     rw [hset] at hR2
     have hK2:=hKj.same (Keep.setCell wr ⟨b4,j,none⟩ (.int .u64 (n64 (a j <<< 1 ||| shc a B j))))
     have hms : 4 - (j + 1) < 4 - j:=by omega
     clear hset hR hKj
     go_upto_region 10 with fail
     go_region
     all_goals
      go_wp2
      exact ⟨⟨j + 1,hj4,by go_num,rfl,hR2,⟨hK2.os,hK2.tape,hK2.output,hK2.size,hK2.keep⟩⟩,by simpa [intOf] using hms⟩
    ·obtain rfl : j = 4:=by omega
     rw [qmz] at hR
     obtain ⟨n,hn⟩ : ∃ n,n = shn a B:=⟨_,rfl⟩
     rw [← hn] at hR hfx
     clear hn
     have g0:=hR.q (k:=0) (by decide)
     have g1:=hR.q (k:=1) (by decide)
     have g2:=hR.q (k:=2) (by decide)
     have g3:=hR.q (k:=3) (by decide)
     go_upto_region 14 with fail
     obtain ⟨W3,hW3⟩ : ∃ W3,W3 = wr.alloc (.cells #[.int .u64 (n64 (n 0)),.int .u64 (n64 (n 1)),.int .u64 (n64 (n 2)),.int .u64 (n64 (n 3))] 100):=⟨_,rfl⟩
     obtain ⟨b8,hb8⟩ : ∃ b,b = wr.heap.size:=⟨_,rfl⟩
     rw [← hW3,← hb8]
     have hx3 : Ext wr W3:=by rw [hW3];exact qaa _ _
     have hR8 : Row W3 b8 100 (rw4 n):=by rw [hW3,hb8];exact Row.alloc wr (rw4 n) _
     have hK3 : Keep [b4] W W3:=(hK.same hKj).ext hx3
     have n84 : b4 ≠ b8:=by have:=hR.lt;omega
     have n8l : bl ≠ b8:=by have:=hRl2.lt;have:=hKj.size;omega
     have n8w : W.heap.size ≤ b8:=by have:=hK.size;have:=hKj.size;omega
     have hR43:=hR.ext hx3
     have hRl3:=hRl.keep hK3 (by simpa using n2)
     clear hW3 hb8 g0 g1 g2 g3 hR hx3
     go_loopw [48,9] (fun v48 v9 wr=>∃ j : Nat,j ≤ 4∧v48 = .int .i64 j∧v9 = .int .u64 (n64 (bc (lsb n j)))∧Row wr b8 100 (rw4 (mixw j (lsn n) n))∧Keep [b8] W3 wr) (fun v48 _ _=>4 - (intOf v48).toNat)
     case atStart=>exact ⟨0,by decide,rfl,rfl,by rw [qm9];exact hR8,Keep.refl _ _⟩
     case round =>
      clear hR8
      obtain ⟨j,hj,rfl,rfl,hR8,hK8⟩:=hrel
      have hR44:=hR43.keep hK8 (by simpa using n84)
      have hRl4:=hRl3.keep hK8 (by simpa using n8l)
      by_cases hj4 : j < 4
      ·have hj4I : (j : Int) < 4:=by omega
       have hj0 : 0 ≤ (j : Int):=by omega
       have cj:=hR44.q hj4
       have cl:=hRl4.q hj4
       have f8:=hR8.fro j
       have c8 : wr.cell? ⟨b8,j,none⟩ = some (.int .u64 (n64 (n j))):=by
        rw [hR8.q hj4,mix_at]
       have hR2:=hR8.set j (.int .u64 (n64 (sbbS (n j) (Lw j) (lsb n j))))
       have hset : (rw4 (mixw j (lsn n) n)).set j (.int .u64 (n64 (sbbS (n j) (Lw j) (lsb n j)))) = rw4 (mixw (j + 1) (lsn n) n):=qpm (lsn n) n hj4
       rw [hset] at hR2
       have hK2:=hK8.same (Keep.setCell wr ⟨b8,j,none⟩ (.int .u64 (n64 (sbbS (n j) (Lw j) (lsb n j)))))
       have hms : 4 - (j + 1) < 4 - j:=by omega
       clear hset hR8 hK8 hR44 hRl4
       go_upto_region 16 with fail
       go_region_with (simp only [sub64])
       all_goals
        simp only [List.getElem_toArray,List.getElem_cons_zero,List.getElem_cons_succ,Act.put,zA,zB,zC]
        go_wp2
        go_roundw
        case rel=>exact ⟨_,_,_,_,_,_,_,_,_,_,_,_,_,_,_,_,_,_,_,⟨j + 1,hj4,by go_num,rfl,hR2,⟨hK2.os,hK2.tape,hK2.output,hK2.size,hK2.keep⟩⟩,rfl⟩
        case measure=>simpa [intOf] using hms
      ·obtain rfl : j = 4:=by omega
       rw [qmz] at hR8
       have hK4 : Keep [b4] W wr:=hK3.trans hK8 (fun x hx=>by rw [List.mem_singleton.1 hx];exact .inr n8w)
       cases hc : lsb n 4
       ·rw [hc] at hfx
        have hf:=hfx.out
        rw [if_neg (by simp)] at hf
        have hfy:=Lib.hid hf
        have g0:=hR8.q (k:=0) (by decide)
        have g1:=hR8.q (k:=1) (by decide)
        have g2:=hR8.q (k:=2) (by decide)
        have g3:=hR8.q (k:=3) (by decide)
        have k0:=hR44.q (k:=0) (by decide)
        have k1:=hR44.q (k:=1) (by decide)
        have k2:=hR44.q (k:=2) (by decide)
        have k3:=hR44.q (k:=3) (by decide)
        have l0:=hR44.fro 0
        have l1:=hR44.fro 1
        have l2:=hR44.fro 2
        have l3:=hR44.fro 3
        have hRn:=hR44.store4 (lsn n)
        have hKn:=hK4.same (Keep.store4 wr b4 (.int .u64 (n64 (lsn n 0))) (.int .u64 (n64 (lsn n 1))) (.int .u64 (n64 (lsn n 2))) (.int .u64 (n64 (lsn n 3))))
        have hbc : n64 (bc false) = 0:=rfl
        clear hf hfx hR44 hRl4 hR8 hR43 hRl3 hK8 hK4 hK3
        go_wp2
        exact ⟨⟨i,_,lsn n,hil,rfl,hx4,hRn,hfy,hKn⟩,by simp [intOf];try omega⟩
       ·rw [hc] at hfx
        have hf:=hfx.out
        rw [if_pos rfl] at hf
        have hfy:=Lib.hid hf
        have hbc : n64 (bc true) = 1:=rfl
        clear hf hfx
        go_wp2
        exact ⟨⟨i,_,n,hil,rfl,hx4,hR44,hfy,hK4⟩,by simp [intOf];try omega⟩
  ·obtain rfl : x = -1:=by omega
   obtain rfl : k = 0:=by omega
   have hv2:=hv.out
   rw [Nat.pow_zero,Nat.div_one] at hv2
   have hvx:=Lib.hid hv2
   clear hv hv2 hxk hxk'
   obtain ⟨W2,hW2⟩ : ∃ W2,W2 = wr:=⟨_,rfl⟩
   subst hW2
   go_upto_region 22 with fail
   obtain ⟨W4,hW4⟩ : ∃ W4,W4 = W2.alloc (.cells (qab fun _=>0) 22):=⟨_,rfl⟩
   obtain ⟨bo,hbo⟩ : ∃ b,b = W2.heap.size:=⟨_,rfl⟩
   rw [← hW4,← hbo]
   have hx4 : Ext W2 W4:=by rw [hW4];exact qaa _ _
   have hRo : RV W4 bo 22 (fun u=>u = .agg (qab fun _=>0)):=⟨(qab fun _=>0).toList,by rw [hW4,hbo];have:=Row.alloc W2 (qab fun _=>0).toList 22;rwa [Array.toArray_toList] at this,by rw [Array.toArray_toList]⟩
   have n4o : b4 ≠ bo:=by have:=hR.lt;omega
   have nro : br ≠ bo:=by have:=hRr2.lt;omega
   have hR4:=hR.ext hx4
   have hRr4:=hRr2.ext hx4
   have hxw4 : Ext w W4:=hxw.trans hx4
   have hbow : w.heap.size ≤ bo:=by have:=hxw.size;omega
   clear hW4 hbo hRl2 hRr2 hR hx4
   go_loopw [68] (fun v68 wr=>∃ (j : Nat) (g : Nat→UInt8),j ≤ 32∧v68 = .int .i64 j∧RV wr bo 22 (fun u=>u = .agg (qab g))∧Hid (∀ k,k < j→g k = nb (v4 a) k)∧Keep [bo] W4 wr) (fun v68 _=>32 - (intOf v68).toNat)
   case atStart=>exact ⟨0,_,by decide,rfl,hRo,Lib.hid (fun _ h=>absurd h (by omega)),Keep.refl _ _⟩
   case round =>
    clear hRo
    obtain ⟨j,g,hj,rfl,hRo,hg,hKo⟩:=hrel
    have hR5:=hR4.keep hKo (by simpa using n4o)
    by_cases hj4 : j < 32
    ·have hj4I : (j : Int) < 32:=by omega
     have hj0 : 0 ≤ (j : Int):=by omega
     obtain ⟨q,hq⟩ : ∃ q,q = j / 8:=⟨_,rfl⟩
     obtain ⟨t,ht⟩ : ∃ t,t = j % 8:=⟨_,rfl⟩
     have hq4 : q < 4:=by omega
     have hq4I : (q : Int) < 4:=by omega
     have hq0 : 0 ≤ (q : Int):=by omega
     have d1 : (j : Int) / 8 = (q : Int):=by omega
     have d2 : (j : Int).tdiv 8 = (q : Int):=by rw [Int.tdiv_eq_ediv_of_nonneg (by omega)];omega
     have r1 : (j : Int) % 8 = (t : Int):=by omega
     have r2 : (j : Int).tmod 8 = (t : Int):=by rw [Int.tmod_eq_emod_of_nonneg (by omega)];omega
     obtain ⟨e,he⟩ : ∃ e,e = 8 * t:=⟨_,rfl⟩
     have e1 : 8 * (t : Int) = (e : Int):=by omega
     have e2 : 0 ≤ (e : Int):=by omega
     have e3 : (e : Int) < 64:=by omega
     have e4 : e < 64:=by omega
     have cq:=hR5.q hq4
     have hsh:=shr_q (a q) e e4
     have cb:=hRo.byte hj4
     have fb:=hRo.fro j
     have hby : (a q >>> UInt64.ofNat e).toUInt8 = nb (v4 a) j:=byte_q a hj4 hq ht he
     have hR2:=hRo.set j (a q >>> UInt64.ofNat e).toUInt8
     have hK2:=hKo.same (Keep.setCell wr ⟨bo,j,none⟩ (.int .u8 (n8 (a q >>> UInt64.ofNat e).toUInt8)))
     have hg2 : Hid (∀ k,k < j + 1→updb g j (a q >>> UInt64.ofNat e).toUInt8 k = nb (v4 a) k):=Lib.hid (fun k hk=>by
      by_cases hkj : k = j
      ·subst hkj
       rw [show updb g k (a q >>> UInt64.ofNat e).toUInt8 k = (a q >>> UInt64.ofNat e).toUInt8 from if_pos rfl]
       exact hby
      ·rw [show updb g j (a q >>> UInt64.ofNat e).toUInt8 k = g k from if_neg hkj]
       exact hg.out k (by omega))
     have hms : 32 - (j + 1) < 32 - j:=by omega
     clear hby hg hRo hKo he hq ht
     go_wp2
     exact ⟨⟨j + 1,_,hj4,by go_num,hR2,hg2,hK2⟩,by simpa [intOf] using hms⟩
    ·obtain rfl : j = 32:=by omega
     have hRr5:=hRr4.keep hKo (by simpa using nro)
     have hxe : Ext w wr:=Ext.keep_ hxw4 hKo (by simpa using hbow)
     have hgg : qab g = qab (nb (N % ordN)):=by
      rw [← hvx.out]
      exact qbm hg.out
     rw [hgg] at hRo
     clear hgg
     have o1:=hRo.opt
     have o2:=hRr5.opt
     obtain ⟨cr,hr1,hr2⟩:=hRr5
     go_wp2
     exact bodyPost_ret (results_cell_row (p:=2) (ty:=22) rfl _ _ br 22 _ (0,0) _ rfl (setRow_heap wr br _ _ 22 (0,0) hr1) Go.Proofs.YtgeihelkkhjjaaaGreatDoor.u22 rfl (by rw [qam];exact i22)) rfl ⟨rfl,Ext.keep_ (ns:=[br]) hxe ⟨rfl,rfl,rfl,by simp [World.setRow],fun k _ hk=>setRow_other wr br k _ (by simpa using hk)⟩ (by simpa using hbw)⟩
end Go.Proofs.YtgeihelkkhjjaaaGreatDoor
end
section
namespace Go.Cv
open Go.RowKit
theorem qb8 {f g : Nat→UInt8} : ∀ (n : Nat),(∀ j,j < n→f j = g j)→bsum f n = bsum g n
 | 0,_=>rfl
 | n + 1,h=>by
  simp only [bsum]
  rw [qb8 n fun j hj=>h j (by omega),h n (by omega)]
theorem qg5 (f : Nat→UInt8) : bsum (fun j=>(qao f).getD j 0) 32 = V f:=qb8 32 fun j hj=>by
 simp [qao,List.getD,hj]
theorem qh5 {w : World} {b : Nat} {T : TypeId} {f : Nat→UInt8} (h : RV w b T (fun u=>u = .agg (qab f))) : Rd w (some ⟨b,0,none⟩) ((qao f).map bv):=by
 obtain ⟨cs,h1,h2⟩:=h
 have h3:=qgb h2
 subst h3
 intro k v hv
 refine ⟨_,rfl,?_⟩
 have e : (qab f).toList = (qao f).map bv:=by
  rw [qbl]
  rfl
 rw [show (Addr.add ⟨b,0,none⟩ k) = ⟨b,k,none⟩ from by unfold Addr.add;split <;> simp_all]
 rw [← e] at hv
 obtain ⟨hlt,he⟩:=List.getElem?_eq_some_iff.1 hv
 rw [h1.cell hlt,he]
theorem qm3 {w : World} {b : Nat} {T : TypeId} {xs : List Value} (h : Row w b T xs) : Rd w (some ⟨b,0,none⟩) xs:=by
 intro k v hv
 refine ⟨_,rfl,?_⟩
 rw [show (Addr.add ⟨b,0,none⟩ k) = ⟨b,k,none⟩ from by unfold Addr.add;split <;> simp_all]
 obtain ⟨hlt,he⟩:=List.getElem?_eq_some_iff.1 hv
 rw [h.cell hlt,he]
theorem RV.newB (w : World) (f : Nat→UInt8) (T : TypeId) : RV (w.alloc (.cells (qab f) T)) w.heap.size T (fun u=>u = .agg (qab f)) :=
 ⟨(qab f).toList,by have:=Row.alloc w (qab f).toList T;rwa [Array.toArray_toList] at this,by rw [Array.toArray_toList]⟩
end Go.Cv
namespace Go.Proofs.YtgeihelkkhjjaaaGreatDoor
open Go.RowKit Go.Cv
theorem qpl (A : Option Addr) (n c : Nat) (l : List UInt8) (w : World) (hl : l.length = n) (hr : Rd w A (l.map bv)) (bnd : n ≤ 64) :
  Calls Tryz.prog 42 #[.slice A n c] w fun e w'=>e = .returned (.tuple #[.agg (qab (nb (bsum (fun j=>l.getD j 0) n % ordN))),.nilIface])∧Ext w w':=by
 have hI : ¬ (64 : Int) < (n : Int):=by omega
 obtain ⟨N,hN⟩ : ∃ N,N = bsum (fun j=>l.getD j 0) n:=⟨_,rfl⟩
 rw [← hN]
 have hNx:=Lib.hid hN
 have HL:=Lib.hid hl
 clear hN hl
 go_enter Tryz.func42,Tryz.ntmps42
 go_upto_region 3 with fail
 obtain ⟨W0,hW0⟩ : ∃ W0,W0 = w.alloc (.cells (qab fun _=>0) 22):=⟨_,rfl⟩
 obtain ⟨br,hbr⟩ : ∃ b,b = w.heap.size:=⟨_,rfl⟩
 rw [← hW0,← hbr]
 have hx0 : Ext w W0:=by rw [hW0];exact qaa _ _
 have hRr : RV W0 br 22 (fun u=>u = .agg (qab fun _=>0)):=by rw [hW0,hbr];exact RV.newB _ _ _
 have hbw : w.heap.size ≤ br:=by omega
 have hr0:=hr.ext hx0
 clear hW0 hbr hr
 go_wp2_with (first
  | (go_at_call 46;(with_reducible refine (qhy A n c l W0 HL.out hr0 bnd).mono ?_);rintro e w1 ⟨m,b,ws,rfl,hm,hb,hrow,hlen,hsum,hx1⟩;have hm8 : m ≤ 8:=(by omega);replace hm:=Lib.hid hm)
  | (go_at_call 49;((with_reducible refine (qjj _ m m ws w1 hlen (qm3 hrow) (by omega)).mono ?_);rintro e w2 ⟨rfl,hx2⟩;rw [hsum,← hNx.out];have o2:=((hRr.ext hx1).ext hx2).opt)))
 obtain ⟨cr,hr1,hr2⟩:=((hRr.ext hx1).ext hx2)
 have hrow2:=setRow_heap w2 br _ (qab (nb (N % ordN))) 22 (0,0) hr1
 refine bodyPost_ret (qfc rfl _ (n:=br) (f:=nb (N % ordN)) ⟨_,by unfold Row;rw [Array.toArray_toList];exact hrow2,by rw [Array.toArray_toList]⟩ rfl) rfl ?_
 exact ⟨rfl,Ext.keep_ (ns:=[br]) (hx0.trans (hx1.trans hx2)) ⟨rfl,rfl,rfl,by simp [World.setRow],fun k _ hk=>setRow_other w2 br k _ (by simpa using hk)⟩ (by simpa using hbw)⟩
theorem ql7 (f : Nat→UInt8) (w : World) :
  Calls Tryz.prog 26 #[.agg (qab f)] w fun e w'=>e = .returned (.bool (beqb (nb (V f % ordN)) f))∧Ext w w':=by
 obtain ⟨N,hN⟩ : ∃ N,N = V f:=⟨_,rfl⟩
 rw [← hN]
 have hNx:=Lib.hid hN
 clear hN
 go_enter Tryz.func26,Tryz.ntmps26
 go_upto_region 1 with fail
 obtain ⟨W0,hW0⟩ : ∃ W0,W0 = w.alloc (.cells (qab f) 22):=⟨_,rfl⟩
 obtain ⟨b,hb⟩ : ∃ b,b = w.heap.size:=⟨_,rfl⟩
 rw [← hW0,← hb]
 have hx0 : Ext w W0:=by rw [hW0];exact qaa _ _
 have hR : RV W0 b 22 (fun u=>u = .agg (qab f)):=by rw [hW0,hb];exact RV.newB _ _ _
 clear hW0 hb
 have hR' : RV W0.drew b 22 (fun u=>u = .agg (qab f)):=hR
 have o0:=hR.opt
 go_region_law (first
  | (go_simp;go_at_call 46;(with_reducible refine (qhy _ 32 32 (qao f) W0.drew (qau f) (qh5 hR') (by decide)).mono ?_);rintro e w1 ⟨m,b1,ws,rfl,hm,hb1,hrow,hlen,hsum,hx1⟩;have hm8 : m ≤ 8:=(by omega);replace hm:=Lib.hid hm;have o1:=(hR'.ext hx1).opt)
  | (go_simp;go_at_call 49;(with_reducible refine (qjj _ m m ws w1 hlen (qm3 hrow) (by omega)).mono ?_);rintro e w2 ⟨rfl,hx2⟩;rw [hsum,qg5,← hNx.out];have o2:=((hR'.ext hx1).ext hx2).opt))
 all_goals
  go_wp2
  go_ret
  exact ⟨rfl,hx0.trans ((qae _).trans (hx1.trans hx2))⟩
end Go.Proofs.YtgeihelkkhjjaaaGreatDoor
end
end
section
section
namespace Go.Cv
open Go.RowKit
def rwn (n : Nat) (a : Nat→UInt64) : List Value:=(List.range n).map fun j=>wq (a j)
theorem qf0 (n : Nat) (a : Nat→UInt64) : (rwn n a).length = n:=by simp [rwn]
theorem rwn_get (n : Nat) (a : Nat→UInt64) {k : Nat} (h : k < n) : (rwn n a)[k]'(by rw [qf0];exact h) = wq (a k):=by simp [rwn]
theorem rwn_set (n : Nat) (a : Nat→UInt64) {k : Nat} (h : k < n) (v : UInt64) : (rwn n a).set k (wq v) = rwn n (upd a k v):=by
 unfold rwn
 apply List.ext_getElem (by simp)
 intro j h1 h2
 rw [List.getElem_set]
 split
 ·rename_i e
  subst e
  simp [upd]
 ·rename_i e
  simp [upd,Ne.symm e]
theorem rwn_of (ws : List UInt64) : ws.map wq = rwn ws.length (fun j=>ws.getD j 0):=by
 unfold rwn
 apply List.ext_getElem (by simp)
 intro j h1 h2
 have : j < ws.length:=by simpa using h1
 simp [List.getD,List.getElem?_eq_getElem this]
theorem qi6 (a : Nat→UInt64) : ∀ n o,wsum ((List.range n).map fun j=>a (o + j)) = lvf (fun j=>a (o + j)) n
 | 0,o=>rfl
 | n + 1,o=>by
  rw [List.range_succ_eq_map,List.map_cons,List.map_map]
  have ih:=qi6 a n (o + 1)
  have e : ((fun j=>a (o + j)) ∘ Nat.succ) = fun j=>a (o + 1 + j):=by
   funext j
   show a (o + (j + 1)) = _
   congr 1;omega
  rw [e]
  show (a (o + 0)).toNat + 18446744073709551616 * _ = _
  rw [ih]
  have h2:=ql6 (fun j=>a (o + j)) 1 n
  have e2 : (fun j=>(fun j=>a (o + j)) (1 + j)) = fun j=>a (o + 1 + j):=by
   funext j
   show a _ = a _
   congr 1;omega
  rw [e2,Nat.add_comm 1 n] at h2
  rw [h2]
  show (a (o + 0)).toNat + _ = lvf (fun j=>a (o + j)) 1 + _
  have h3 : lvf (fun j=>a (o + j)) 1 = (a (o + 0)).toNat:=by
   show 0 + 2 ^ (64 * 0) * (a (o + 0)).toNat = _
   simp
  rw [h3]
theorem qo0 (ws : List UInt64) : wsum ws = lvf (fun j=>ws.getD j 0) ws.length:=by
 have h:=qi6 (fun j=>ws.getD j 0) ws.length 0
 simp only [Nat.zero_add] at h
 rw [← h]
 congr 1
 apply List.ext_getElem (by simp)
 intro j h1 h2
 simp [List.getD,List.getElem?_eq_getElem h1]
theorem wsum_rwn (a : Nat→UInt64) (n : Nat) : wsum ((List.range n).map a) = lvf a n:=by
 have h:=qi6 a n 0
 simpa only [Nat.zero_add] using h
theorem qks {a b : Nat→UInt64} : ∀ n,(∀ j,j < n→a j = b j)→lvf a n = lvf b n
 | 0,_=>rfl
 | n + 1,h=>by
  show lvf a n + 2 ^ (64 * n) * (a n).toNat = lvf b n + 2 ^ (64 * n) * (b n).toNat
  rw [qks n fun j hj=>h j (by omega),h n (by omega)]
theorem qqm (z : Nat→UInt64) (n : Nat) : ∀ m,lvf (fun j=>if j < n then z j else 0) (n + m) = lvf z n
 | 0=>qks n fun j hj=>if_pos hj
 | m + 1=>by
  show lvf _ (n + m) + 2 ^ (64 * (n + m)) * ((if n + m < n then z (n + m) else 0 : UInt64)).toNat = _
  rw [qqm z n m,if_neg (by omega)]
  show _ + _ * 0 = _
  omega
theorem qqn (a : Nat→UInt64) : ∀ n,lvf a n < 2 ^ (64 * n)
 | 0=>by simp [lvf]
 | n + 1=>by
  have ih:=qqn a n
  have h:=(a n).toNat_lt
  show lvf a n + 2 ^ (64 * n) * (a n).toNat < _
  rw [show 64 * (n + 1) = 64 * n + 64 from by omega,Nat.pow_add]
  have h3 : 2 ^ (64 * n) * (a n).toNat ≤ 2 ^ (64 * n) * (2 ^ 64 - 1):=Nat.mul_le_mul_left _ (by omega)
  rw [Nat.mul_sub,Nat.mul_one] at h3
  have : 2 ^ (64 * n) ≤ 2 ^ (64 * n) * 2 ^ 64:=Nat.le_mul_of_pos_right _ (by decide)
  omega
def Sum9 (ws : Nat→UInt64) (k : Nat) (cr : UInt64) (T : Nat) : Prop:=lvf ws 9 + 2 ^ (64 * k) * cr.toNat = T
theorem Sum9.step {ws : Nat→UInt64} {k : Nat} {cr lo hi : UInt64} {T p : Nat} (hk : k < 9) (h : Sum9 ws k cr T) (hm : lo.toNat + 18446744073709551616 * hi.toNat = p + (ws k).toNat + cr.toNat) : Sum9 (upd ws k lo) (k + 1) hi (T + 2 ^ (64 * k) * p):=by
 unfold Sum9 at *
 have hu:=qjv ws k lo 9 hk
 rw [show 64 * (k + 1) = 64 * k + 64 from by omega,Nat.pow_add]
 generalize 2 ^ (64 * k) = A at *
 have h2 : A * lo.toNat + A * 18446744073709551616 * hi.toNat = A * p + A * (ws k).toNat + A * cr.toNat:=by
  rw [Nat.mul_assoc,← Nat.mul_add,hm,Nat.mul_add,Nat.mul_add]
 rw [show (2 : Nat) ^ 64 = 18446744073709551616 from rfl]
 omega
theorem Sum9.small {ws : Nat→UInt64} {k n : Nat} {cr : UInt64} {T : Nat} (h : Sum9 ws k cr T) (hT : T < 2 ^ (64 * n)) (hc : 0 < cr.toNat) : k < n:=by
 unfold Sum9 at h
 rcases Nat.lt_or_ge k n with h1 | h1
 ·exact h1
 ·have h2 : 2 ^ (64 * n) ≤ 2 ^ (64 * k):=Nat.pow_le_pow_right (by decide) (by omega)
  have h3 : 2 ^ (64 * k) ≤ 2 ^ (64 * k) * cr.toNat:=Nat.le_mul_of_pos_right _ hc
  omega
theorem pow3 (m a b c : Nat) (h : m = a + (b + c)) : 2 ^ m = 2 ^ a * (2 ^ b * 2 ^ c):=by rw [h,Nat.pow_add,Nat.pow_add]
theorem ma_bound {z n : Nat} (hn : n = 9) (x y : Nat→UInt64) (i : Nat) (hi : i ≤ 4) (hz : z < 2 ^ 256) : z + lvf x i * lvf y 4 < 2 ^ (64 * n):=by
 have e9 : 64 * n = 256 + (256 + 64):=by omega
 rw [pow3 _ _ _ _ e9]
 clear hn e9
 have h1:=qqn x i
 have h2:=qqn y 4
 have h3 : 2 ^ (64 * i) ≤ 2 ^ 256:=Nat.pow_le_pow_right (by decide) (by omega)
 have h2' : lvf y 4 < 2 ^ 256:=h2
 have hA : 0 < (2 : Nat) ^ 256:=Nat.pow_pos (by decide)
 generalize (2 : Nat) ^ 256 = A at *
 have h4 : lvf x i * lvf y 4 ≤ A * A:=Nat.mul_le_mul (by omega) (by omega)
 rw [show (2 : Nat) ^ 64 = 18446744073709551616 from rfl]
 have h5 : A * (A * 18446744073709551616) = A * A * 18446744073709551616:=(Nat.mul_assoc _ _ _).symm
 have h6 : A ≤ A * A:=Nat.le_mul_of_pos_right _ hA
 omega
theorem own_row_ {w : World} {B n : Nat} {e : TypeId} {v : Value} {xs : List Value} (h : w.ownsRow B e 1 v n xs) (hn : 0 < n) :
  ∃ g sp,v = .slice (some ⟨g,0,none⟩) n (n + sp.length)∧B ≤ g∧n + sp.length ≤ maxLen∧Row w g e (xs ++ sp)∧xs.length = n:=by
 have hl:=h.1
 rcases h.2 with ⟨_,h0⟩ | ⟨g,cap,cur,rfl,hg,hh,hnc,hcm,hs,ht⟩
 ·omega
 ·have e1 : xs ++ cur.toList.drop n = cur.toList:=by rw [← ht,Nat.mul_one,List.take_append_drop]
  have e2 : n + (cur.toList.drop n).length = cap:=by rw [List.length_drop,Array.length_toList,hs];omega
  refine ⟨g,cur.toList.drop n,by rw [e2],hg,by omega,?_,by omega⟩
  unfold Row
  rw [e1]
  simpa using hh
theorem row_own_ {w : World} {B n g : Nat} {e : TypeId} {xs sp : List Value} (h : Row w g e (xs ++ sp)) (hg : B ≤ g) (hl : xs.length = n) (hm : n + sp.length ≤ maxLen) : w.ownsRow B e 1 (.slice (some ⟨g,0,none⟩) n (n + sp.length)) n xs:=by
 refine ⟨by omega,.inr ⟨g,n + sp.length,(xs ++ sp).toArray,rfl,hg,h,by omega,hm,by simp;omega,?_⟩⟩
 simp [← hl]
theorem Row.n {w : World} {b : Nat} {T : TypeId} {n : Nat} {a : Nat→UInt64} {sp : List Value} (h : Row w b T (rwn n a ++ sp)) {k : Nat} (hk : k < n) : w.cell? ⟨b,k,none⟩ = some (.int .u64 (n64 (a k))):=by
 rw [h.cell (by rw [List.length_append,qf0];omega)]
 rw [List.getElem_append_left (by rw [qf0];exact hk),rwn_get n a hk]
 rfl
theorem Row.setn {w : World} {b : Nat} {T : TypeId} {n : Nat} {a : Nat→UInt64} {sp : List Value} (h : Row w b T (rwn n a ++ sp)) {k : Nat} (hk : k < n) (v : UInt64) : Row (w.setCell ⟨b,k,none⟩ (.int .u64 (n64 v))) b T (rwn n (upd a k v) ++ sp):=by
 have:=h.set k (.int .u64 (n64 v))
 rw [List.set_append_left _ _ (by rw [qf0];exact hk)] at this
 rw [← rwn_set n a hk v]
 exact this
theorem Row.grown_ {w w' : World} {b : Nat} {T : TypeId} {cs : List Value} {row : Option Nat} (h : Row w b T cs) (hg : w.grownBy w' row) (hne : some b ≠ row) : Row w' b T cs:=(hg.block b h.lt hne).trans h
section
variable {P : Program} {w : World} {ops : Array Oper} {rest : List Oper} {o : Oper} {a : Act} {K : Act→World→Prop} {Q : Exit→Act→World→Prop}
theorem qlg (hgd : o.guard = none) (s x : Operand) (t e : TypeId) (bytes : Nat)
  (ho : o.op = .call { callee:=.builtin .append,args:=#[s,x],argTypes:=#[t,t] }) (hT : RowT P t e bytes)
  (base : Nat) (v : Value) (n : Nat) (xs : List Value) (hs : a.eval s = v) (hown : w.ownsRow base e 1 v n xs)
  (A : Option Addr) (m c : Nat) (news : List Value) (hx : a.eval x = .slice A m c) (hm : news.length = m) (hr : Rd w A news) (h1 : ∀ u ∈ news,u.oneCell' = true)
  (h63 : n + m ≤ maxLen) (hbytes : (n + m) * bytes ≤ 140737488355328) (hbase : base ≤ w.heap.size)
  (h : ∀ A' c' w',w'.ownsRow base e 1 (.slice A' (n + m) c') (n + m) (xs ++ news)→n + m ≤ c'→c' ≤ maxLen→((Value.slice A' (n + m) c').ownBlock = v.ownBlock ∨ (Value.slice A' (n + m) c').ownBlock = some w.heap.size)→w.grownBy w' v.ownBlock→wpList P ops Q rest (a.put o.dst (.slice A' (n + m) c')) w') : wpList P ops Q (o :: rest) a w :=
 wpList_plain hgd fun _ hK=>by
  obtain ⟨ht,z,i,hi,hz,hsize,hby,hzs⟩:=hT
  refine qg6 w s x t ho base e i z bytes ht hi hz hsize hby hzs v n xs hs hown A m c news hx hm hr h1 h63 hbytes hbase fun v' w' h2 h3 h4=>?_
  obtain ⟨A',c',rfl,hc,hcm,hr',_⟩:=qcn h2
  exact hK _ _ (h A' c' w' h2 hc hcm h4 h3)
end
end Go.Cv
end
section
namespace Go.Proofs.YtgeihelkkhjjaaaGreatDoor
open Go.RowKit Go.Cv
theorem u64rowS : RowT Tryz.prog 71 73 8:=RowT.of (z:=.int .u64 0) Tryz.underlying71 qng rfl
theorem rd_five (w : World) (t : TypeId) : Rd (w.alloc (.cells #[.int .u64 0,.int .u64 0,.int .u64 0,.int .u64 0,.int .u64 0] t)) (some ⟨w.heap.size,0,none⟩) [.int .u64 0,.int .u64 0,.int .u64 0,.int .u64 0,.int .u64 0]:=qm3 (Row.alloc w [.int .u64 0,.int .u64 0,.int .u64 0,.int .u64 0,.int .u64 0] t)
theorem qlr (b : Nat) (f : Nat→UInt8) (w : World) (hR : RV w b 22 (fun u=>u = .agg (qab f))) :
  Calls Tryz.prog 46 #[.slice (some ⟨b,0,none⟩) 32 32] w fun e w'=>∃ b' a,e = .returned (.slice (some ⟨b',0,none⟩) 4 4)∧w.heap.size ≤ b'∧Row w' b' 73 (rwn 4 a ++ [])∧lvf a 4 = V f∧Ext w w':=by
 refine (qhy _ 32 32 (qao f) w (qau f) (qh5 hR) (by decide)).mono ?_
 rintro e w1 ⟨m,b1,ws,rfl,hm,hb1,hrow,hlen,hsum,hx1⟩
 obtain rfl : m = 4:=hm
 rw [rwn_of,hlen] at hrow
 rw [qo0,hlen,qg5] at hsum
 exact ⟨b1,_,rfl,hb1,by rw [List.append_nil];exact hrow,hsum,hx1⟩
theorem qoh (f g h : Nat→UInt8) (w : World) :
  Calls Tryz.prog 18 #[.agg (qab f),.agg (qab g),.agg (qab h)] w fun e w'=>e = .returned (.agg (qab (nb ((V f * V g + V h) % ordN))))∧Ext w w':=by
 go_enter Tryz.func18,Tryz.ntmps18
 go_upto_region 1 with fail
 obtain ⟨W1,hW1⟩ : ∃ W1,W1 = w.alloc (.cells (qab f) 22):=⟨_,rfl⟩
 obtain ⟨W2,hW2⟩ : ∃ W2,W2 = W1.alloc (.cells (qab g) 22):=⟨_,rfl⟩
 obtain ⟨W3,hW3⟩ : ∃ W3,W3 = W2.alloc (.cells (qab h) 22):=⟨_,rfl⟩
 obtain ⟨W0,hW0⟩ : ∃ W0,W0 = W3.alloc (.cells (qab fun _=>0) 22):=⟨_,rfl⟩
 rw [← hW1,← hW2,← hW3,← hW0]
 have s1 : W1.heap.size = w.heap.size + 1:=by rw [hW1];exact Array.size_push _
 have s2 : W2.heap.size = w.heap.size + 1 + 1:=by rw [hW2,← s1];exact Array.size_push _
 have s3 : W3.heap.size = w.heap.size + 1 + 1 + 1:=by rw [hW3,← s2];exact Array.size_push _
 have x1 : Ext w W1:=by rw [hW1];exact qaa _ _
 have x2 : Ext W1 W2:=by rw [hW2];exact qaa _ _
 have x3 : Ext W2 W3:=by rw [hW3];exact qaa _ _
 have x4 : Ext W3 W0:=by rw [hW0];exact qaa _ _
 have Rf : RV W0 w.heap.size 22 (fun u=>u = .agg (qab f)):=by
  refine (RV.ext ?_ x2 |>.ext x3).ext x4;rw [hW1];exact RV.newB _ _ _
 have Rg : RV W0 (w.heap.size + 1) 22 (fun u=>u = .agg (qab g)):=by
  refine (RV.ext ?_ x3).ext x4;rw [hW2,← s1];exact RV.newB _ _ _
 have Rh : RV W0 (w.heap.size + 1 + 1) 22 (fun u=>u = .agg (qab h)):=by
  refine RV.ext ?_ x4;rw [hW3,← s2];exact RV.newB _ _ _
 have Rr : RV W0 (w.heap.size + 1 + 1 + 1) 22 (fun u=>u = .agg (qab fun _=>0)):=by
  rw [hW0,← s3];exact RV.newB _ _ _
 have hx0 : Ext w W0:=x1.trans (x2.trans (x3.trans x4))
 obtain ⟨bf,hbf⟩ : ∃ b,b = w.heap.size:=⟨_,rfl⟩
 obtain ⟨bg,hbg⟩ : ∃ b,b = w.heap.size + 1:=⟨_,rfl⟩
 obtain ⟨bh,hbh⟩ : ∃ b,b = w.heap.size + 1 + 1:=⟨_,rfl⟩
 obtain ⟨br,hbr⟩ : ∃ b,b = w.heap.size + 1 + 1 + 1:=⟨_,rfl⟩
 rw [← hbr,← hbh,← hbg,← hbf]
 rw [← hbf] at Rf
 rw [← hbg] at Rg
 rw [← hbh] at Rh
 rw [← hbr] at Rr
 have hbw : w.heap.size ≤ br:=by omega
 have n1 : bf ≠ bg:=by omega
 have n2 : bf ≠ bh:=by omega
 have n3 : bg ≠ bh:=by omega
 clear hW0 hW1 hW2 hW3 s1 s2 s3 x1 x2 x3 x4 hbf hbg hbh hbr
 have Rf' : RV W0.drew bf 22 (fun u=>u = .agg (qab f)):=Rf
 have Rg' : RV W0.drew bg 22 (fun u=>u = .agg (qab g)):=Rg
 have Rh' : RV W0.drew bh 22 (fun u=>u = .agg (qab h)):=Rh
 go_region_law (first
  | (go_simp;go_at_call 46;(with_reducible refine (qlr bf f W0.drew Rf').mono ?_);rintro e w1 ⟨bx,x,rfl,hbx,Rx,hvx,hx1⟩)
  | (go_simp;go_at_call 46;(with_reducible refine (qlr bg g w1 (Rg'.ext hx1)).mono ?_);rintro e w2 ⟨by_,y,rfl,hby,Ry,hvy,hx2⟩)
  | (go_simp;go_at_call 46;(with_reducible refine (qlr bh h w2 ((Rh'.ext hx1).ext hx2)).mono ?_);rintro e w3 ⟨bz,z,rfl,hbz,Rz,hvz,hx3⟩))
 all_goals
  simp only [List.getElem_toArray,List.getElem_cons_zero,List.getElem_cons_succ,Act.put,zA,zB,zC]
  have Rx3:=((Rx.ext hx2).ext hx3)
  have Ry3:=Ry.ext hx3
  have hbxl:=Rx.lt
  have hbyl:=Ry.lt
  have hx03 : Ext W0 w3:=(qae _).trans (hx1.trans (hx2.trans hx3))
  have hsd : W0.drew.heap.size = W0.heap.size:=rfl
  rw [hsd] at hbx
  have hby0 : W0.heap.size ≤ by_:=Nat.le_trans hx1.size hby
  have hbz0 : W0.heap.size ≤ bz:=Nat.le_trans hx1.size (Nat.le_trans hx2.size hbz)
  have nxy : bx ≠ by_:=by omega
  have nxz : bx ≠ bz:=by have:=hx2.size;omega
  have nyz : by_ ≠ bz:=by omega
  have hoz:=row_own_ (B:=W0.heap.size) (xs:=rwn 4 z) (sp:=[]) Rz hbz0 (qf0 4 z) (by decide)
  have hsz3:=hx03.size
  clear Rx Ry hbx hby hbz hsd Rz
  go_upto_region 4 with (at_builtin;refine qlg rfl (.tmp 26) (.tmp 27) 71 73 8 rfl u64rowS W0.heap.size (.slice (some ⟨bz,0,none⟩) 4 4) 4 (rwn 4 z) rfl (qbc hoz (qaa _ _)) (some _) 5 5 [.int .u64 0,.int .u64 0,.int .u64 0,.int .u64 0,.int .u64 0] rfl rfl (rd_five w3 _) (by simp [Value.oneCell']) (by decide) (by decide) (by have:=(qaa w3 (.cells #[.int .u64 0,.int .u64 0,.int .u64 0,.int .u64 0,.int .u64 0] 73)).size;omega) ?_;intro A4 c4 w4 ho4 hc4 hm4 hob4 hg4)
  have hx4 : Ext W0 w4:=qk2 (hx03.trans (qaa _ _)) (qbc hoz (qaa _ _)) (Nat.le_refl _) hg4
  obtain ⟨bw,sp,hv4,hbw4,hmx4,Rw,-⟩:=own_row_ ho4 (by decide)
  injection hv4 with hA4 _ hc4'
  subst hA4
  subst hc4'
  have Rx4:=(Rx3.ext (qaa w3 (.cells #[.int .u64 0,.int .u64 0,.int .u64 0,.int .u64 0,.int .u64 0] 73))).grown_ hg4 (by simpa [Value.ownBlock] using nxz)
  have Ry4:=(Ry3.ext (qaa w3 (.cells #[.int .u64 0,.int .u64 0,.int .u64 0,.int .u64 0,.int .u64 0] 73))).grown_ hg4 (by simpa [Value.ownBlock] using nyz)
  have nxw : bx ≠ bw:=by
   rcases hob4 with e | e
   ·simp only [Value.ownBlock,Option.some.injEq] at e;omega
   ·simp only [Value.ownBlock,Option.some.injEq] at e
    have:=Rx3.lt
    have:=(qaa w3 (.cells #[.int .u64 0,.int .u64 0,.int .u64 0,.int .u64 0,.int .u64 0] 73)).size
    omega
  have nyw : by_ ≠ bw:=by
   rcases hob4 with e | e
   ·simp only [Value.ownBlock,Option.some.injEq] at e;omega
   ·simp only [Value.ownBlock,Option.some.injEq] at e
    have:=Ry3.lt
    have:=(qaa w3 (.cells #[.int .u64 0,.int .u64 0,.int .u64 0,.int .u64 0,.int .u64 0] 73)).size
    omega
  obtain ⟨ws,hws⟩ : ∃ ws : Nat→UInt64,ws = fun j=>if j < 4 then z j else 0:=⟨_,rfl⟩
  have hrow : rwn 4 z ++ [.int .u64 0,.int .u64 0,.int .u64 0,.int .u64 0,.int .u64 0] = rwn 9 ws:=by rw [hws];rfl
  have hl9 : lvf ws 9 = V h:=by
   rw [← hvz,hws]
   exact qqm z 4 5
  rw [hrow] at Rw
  have hVh : V h < 2 ^ 256:=qeu h 32
  have Rr4:=Rr.ext hx4
  have hxw4 : Ext w w4:=hx0.trans hx4
  have hbwW : w.heap.size ≤ bw:=Nat.le_trans hx0.size hbw4
  obtain ⟨Z,hZ⟩ : ∃ Z,Z = V h:=⟨_,rfl⟩
  have nrw : br ≠ bw:=by have:=Rr.lt;omega
  rw [← hZ] at hl9 hVh
  have HZ:=Lib.hid hZ
  have HX:=Lib.hid hvx
  have HY:=Lib.hid hvy
  clear hws hrow hob4 hg4 hoz Rx3 Ry3 ho4 hZ hvx hvy hvz Rf Rg Rh Rf' Rg' Rh' Rr
  go_loopw [31] (fun v31 wr=>∃ (i : Nat) (ws : Nat→UInt64),i ≤ 4∧v31 = .int .i64 i∧Row wr bw 73 (rwn 9 ws ++ sp)∧Hid (lvf ws 9 = Z + lvf x i * lvf y 4)∧Keep [bw] w4 wr) (fun v31 _=>4 - (intOf v31).toNat)
  case atStart=>exact ⟨0,ws,by decide,rfl,Rw,Lib.hid (by rw [hl9,show lvf x 0 = 0 from rfl,Nat.zero_mul,Nat.add_zero]),Keep.refl _ _⟩
  case round =>
   clear Rw hl9
   clear ws
   obtain ⟨i,ws,hi,rfl,Rw,hl9,hK⟩:=hrel
   have Rx5:=Rx4.keep hK (by simpa using nxw)
   have Ry5:=Ry4.keep hK (by simpa using nyw)
   by_cases hi4 : i < 4
   ·have hi4I : (i : Int) < 4:=by omega
    have hi0 : 0 ≤ (i : Int):=by omega
    have cx:=Rx5.n hi4
    obtain ⟨T0,hT0⟩ : ∃ T0,T0 = Z + lvf x i * lvf y 4:=⟨_,rfl⟩
    have hS0 : Hid (Sum9 ws i 0 (T0 + 2 ^ (64 * i) * ((x i).toNat * lvf y 0))):=Lib.hid (by
     unfold Sum9
     rw [hl9.out,hT0]
     rfl)
    have hT1 : T0 + 2 ^ (64 * i) * ((x i).toNat * lvf y 4) = Z + lvf x (i + 1) * lvf y 4:=by
     rw [hT0]
     show _ = Z + (lvf x i + 2 ^ (64 * i) * (x i).toNat) * lvf y 4
     rw [Nat.add_mul,Nat.mul_assoc,Nat.add_assoc]
    have hTb : ∀ n,n = 9→T0 + 2 ^ (64 * i) * ((x i).toNat * lvf y 4) < 2 ^ (64 * n):=fun n hn=>by
     rw [hT1];exact ma_bound hn x y (i + 1) (by omega) hVh
    have hT1x:=Lib.hid hT1
    clear hT1 hT0 hl9
    obtain ⟨W5,hW5⟩ : ∃ W5,W5 = wr:=⟨_,rfl⟩
    subst hW5
    go_upto_region 8 with fail
    go_loopw [38,13] (fun v38 v13 wr=>∃ (k : Nat) (ws : Nat→UInt64) (cr : UInt64),k ≤ 4∧v38 = .int .i64 k∧v13 = .int .u64 (n64 cr)∧Row wr bw 73 (rwn 9 ws ++ sp)∧Hid (Sum9 ws (i + k) cr (T0 + 2 ^ (64 * i) * ((x i).toNat * lvf y k)))∧Keep [bw] W5 wr) (fun v38 _ _=>4 - (intOf v38).toNat)
    case atStart=>exact ⟨0,ws,0,by decide,rfl,rfl,Rw,hS0,Keep.refl _ _⟩
    case round =>
     clear Rw hS0
     clear ws
     obtain ⟨k,ws,cr,hk,rfl,rfl,Rw,hS,hK5⟩:=hrel
     have Ry6:=Ry5.keep hK5 (by simpa using nyw)
     by_cases hk4 : k < 4
     ·have hk4I : (k : Int) < 4:=by omega
      have hk0 : 0 ≤ (k : Int):=by omega
      have cy:=Ry6.n hk4
      obtain ⟨q,hq⟩ : ∃ q,q = i + k:=⟨_,rfl⟩
      rw [← hq] at hS
      have hq9 : q < 9:=by omega
      have hqI : (i : Int) + (k : Int) = (q : Int):=by omega
      have hqb : (q : Int) < 9:=by omega
      have hq0 : 0 ≤ (q : Int):=by omega
      have cw:=Rw.n hq9
      have fw:=Rw.fro q
      have hm:=qqk (x i) (y k) (ws q) cr
      have hS2:=Sum9.step hq9 hS.out (p:=(x i).toNat * (y k).toNat) hm
      have hS3 : Hid (Sum9 (upd ws q (msLo (x i) (y k) (ws q) cr)) (i + (k + 1)) (msHi (x i) (y k) (ws q) cr) (T0 + 2 ^ (64 * i) * ((x i).toNat * lvf y (k + 1)))):=Lib.hid (by
       have e1 : i + (k + 1) = q + 1:=by omega
       rw [e1]
       have e2 : T0 + 2 ^ (64 * i) * ((x i).toNat * lvf y (k + 1)) = T0 + 2 ^ (64 * i) * ((x i).toNat * lvf y k) + 2 ^ (64 * q) * ((x i).toNat * (y k).toNat):=by
        show T0 + 2 ^ (64 * i) * ((x i).toNat * (lvf y k + 2 ^ (64 * k) * (y k).toNat)) = _
        rw [hq,show 64 * (i + k) = 64 * i + 64 * k from by omega,Nat.pow_add,Nat.mul_add,Nat.mul_add,Nat.add_assoc,Nat.mul_assoc]
        congr 3
        exact Nat.mul_left_comm _ _ _
       rw [e2]
       exact hS2)
      have R2:=Rw.setn hq9 (msLo (x i) (y k) (ws q) cr)
      have hK2:=hK5.same (Keep.setCell wr ⟨bw,q,none⟩ (.int .u64 (n64 (msLo (x i) (y k) (ws q) cr))))
      have hms : 4 - (k + 1) < 4 - k:=by omega
      clear hm hS2 hS Rw hK5 hq Ry6
      go_upto_region 16 with (first | simp only [qbb] | (go_at_call 47;with_reducible refine (qe1 _ _ _).mono ?_;rintro e w' ⟨rfl,rfl⟩))
      go_wp2
      first
       | exact ⟨⟨k + 1,_,msHi (x i) (y k) (ws q) cr,hk4,by go_num,rfl,R2,hS3,hK2⟩,by simpa [intOf] using hms⟩
       | (go_roundw
          case rel=>exact ⟨_,_,_,_,_,_,_,_,_,_,_,_,_,_,_,_,_,_,_,_,_,_,_,_,_,_,_,_,_,_,_,_,_,_,_,_,_,_,_,_,_,_,_,_,_,⟨k + 1,_,msHi (x i) (y k) (ws q) cr,hk4,by go_num,rfl,R2,hS3,hK2⟩,rfl⟩
          case measure=>simpa [intOf] using hms)
     ·obtain rfl : k = 4:=by omega
      obtain ⟨T,hT⟩ : ∃ T,T = T0 + 2 ^ (64 * i) * ((x i).toNat * lvf y 4):=⟨_,rfl⟩
      rw [← hT] at hS hTb hT1x
      have hTx:=Lib.hid hTb
      obtain ⟨q4,hq4⟩ : ∃ q4,q4 = i + 4:=⟨_,rfl⟩
      rw [← hq4] at hS
      have hq4I : (i : Int) + 4 = (q4 : Int):=by omega
      have hq4b : q4 ≤ 8:=by omega
      obtain ⟨W6,hW6⟩ : ∃ W6,W6 = wr:=⟨_,rfl⟩
      subst hW6
      clear hT hTb hq4 Ry6
      go_upto_region 18 with fail
      go_loopw [19,13] (fun v19 v13 wr=>∃ (k : Nat) (ws : Nat→UInt64) (cr : UInt64),k ≤ 9∧v19 = .int .i64 k∧v13 = .int .u64 (n64 cr)∧Row wr bw 73 (rwn 9 ws ++ sp)∧Hid (Sum9 ws k cr T)∧Keep [bw] W6 wr) (fun v19 _ _=>9 - (intOf v19).toNat)
      case atStart=>exact ⟨q4,ws,cr,by omega,rfl,rfl,Rw,hS,Keep.refl _ _⟩
      case round =>
       clear Rw hS
       obtain ⟨k,ws,cr,hk,rfl,rfl,Rw,hS,hK6⟩:=hrel
       by_cases hc : 0 < cr.toNat
       ·have hk9 : k < 9:=hS.out.small (hTx.out 9 rfl) hc
        have hcI : 0 < n64 cr:=by show (0 : Int) < (cr.toNat : Int);omega
        have hkI : (k : Int) < 9:=by omega
        have hk0 : 0 ≤ (k : Int):=by omega
        have cw:=Rw.n hk9
        have fw:=Rw.fro k
        have hm:=qdh (ws k) cr false
        have hS2:=Sum9.step hk9 hS.out (lo:=adcS (ws k) cr false) (hi:=bc (adcC (ws k) cr false)) (p:=0) (by
         rw [qfl]
         have : bn false = 0:=rfl
         omega)
        rw [Nat.mul_zero,Nat.add_zero] at hS2
        have hS3:=Lib.hid hS2
        have R2:=Rw.setn hk9 (adcS (ws k) cr false)
        have hK2:=hK6.same (Keep.setCell wr ⟨bw,k,none⟩ (.int .u64 (n64 (adcS (ws k) cr false))))
        have hms : 9 - (k + 1) < 9 - k:=by omega
        clear hm hS2 hS Rw hK6
        go_upto_region 19 with (first | simp only [qbb])
        go_wp2
        first
         | exact ⟨⟨k + 1,_,bc (adcC (ws k) cr false),hk9,by go_num,rfl,R2,hS3,hK2⟩,by simpa [intOf] using hms⟩
         | exact ⟨⟨_,_,_,_,_,_,_,_,_,_,_,_,_,_,_,_,_,_,⟨k + 1,_,bc (adcC (ws k) cr false),hk9,by go_num,rfl,R2,hS3,hK2⟩,rfl⟩,by simpa [intOf] using hms⟩
       ·have hc0 : cr.toNat = 0:=by omega
        have hcI : ¬ 0 < n64 cr:=by show ¬ (0 : Int) < (cr.toNat : Int);omega
        have hfin : Hid (lvf ws 9 = Z + lvf x (i + 1) * lvf y 4):=Lib.hid (by
         rw [← hT1x.out,← hS.out,hc0,Nat.mul_zero,Nat.add_zero])
        have hms : 4 - (i + 1) < 4 - i:=by omega
        clear hS
        go_wp2
        first
         | exact ⟨⟨i + 1,ws,hi4,by go_num,Rw,hfin,hK.same (hK5.same hK6)⟩,by simpa [intOf] using hms⟩
         | exact ⟨⟨_,_,_,_,_,_,_,_,_,_,⟨i + 1,ws,hi4,by go_num,Rw,hfin,hK.same (hK5.same hK6)⟩,rfl⟩,by simpa [intOf] using hms⟩
         | exact ⟨⟨_,_,_,_,_,_,_,_,_,_,⟨i + 1,ws,hi4,by go_num,Rw,hfin,hK.same (hK5.same hK6)⟩,rfl,rfl,rfl,rfl,rfl,rfl,rfl,rfl,rfl,rfl⟩,by simpa [intOf] using hms⟩
         | exact ⟨⟨_,_,_,_,_,_,_,_,_,_,⟨i + 1,hi4,rfl,ws,Rw,hfin,hK.same (hK5.same hK6)⟩,rfl,rfl,rfl,rfl,rfl,rfl,rfl,rfl,rfl,by simp⟩,by simpa [intOf] using hms⟩
   ·obtain rfl : i = 4:=by omega
    have Rr5:=Rr4.keep hK (by simpa using nrw)
    have hxe : Ext w wr:=Ext.keep_ hxw4 hK (by simpa using hbwW)
    have hval : wsum ((List.range 9).map ws) = V f * V g + V h:=by
     rw [wsum_rwn,hl9.out,HX.out,HY.out,HZ.out,Nat.add_comm]
    have hrd : Rd wr (some ⟨bw,0,none⟩) (((List.range 9).map ws).map wq):=by
     have e : ((List.range 9).map ws).map wq = (rwn 9 ws ++ sp).take 9:=by
      rw [List.take_append_of_le_length (by rw [qf0];exact Nat.le_refl _),List.take_of_length_le (by rw [qf0];exact Nat.le_refl _),List.map_map]
      rfl
     rw [e]
     exact (qm3 Rw).take 9
    have hlen : ((List.range 9).map ws).length = 9:=by simp
    have hvx:=Lib.hid hval
    generalize (List.range 9).map ws = l9 at *
    clear hval
    go_wp2_with (go_at_call 49;(with_reducible refine (qjj _ 9 _ l9 wr hlen hrd (by decide)).mono ?_);rintro e w6 ⟨rfl,hx6⟩;rw [hvx.out];have o2:=(Rr5.ext hx6).opt)
    obtain ⟨cr,hr1,hr2⟩:=Rr5.ext hx6
    exact bodyPost_ret (results_cell_row (p:=6) (ty:=22) rfl _ _ br 22 _ (0,0) _ rfl (setRow_heap w6 br _ _ 22 (0,0) hr1) Go.Proofs.YtgeihelkkhjjaaaGreatDoor.u22 rfl (by rw [qam];exact i22)) rfl ⟨rfl,Ext.keep_ (ns:=[br]) (hxe.trans hx6) ⟨rfl,rfl,rfl,by simp [World.setRow],fun k _ hk=>setRow_other w6 br k _ (by simpa using hk)⟩ (by simpa using hbw)⟩
end Go.Proofs.YtgeihelkkhjjaaaGreatDoor
end
end
