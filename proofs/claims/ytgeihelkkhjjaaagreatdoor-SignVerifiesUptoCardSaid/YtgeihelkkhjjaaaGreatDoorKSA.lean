import Derived.Test.YtgeihelkkhjjaaaGreatDoorKCrvF
import Derived.Laws.MakeOwn
set_option linter.unusedSimpArgs false
set_option linter.unusedVariables false
set_option maxRecDepth 20000
set_option maxHeartbeats 4000000
section
namespace Go.Cv
open Go.RowKit
def wq (x : UInt64) : Value:=.int .u64 (n64 x)
def spw (F : Nat→UInt8) (i q : Nat) : UInt64:=acw F q (min 8 (i - 8 * q))
def spL (F : Nat→UInt8) (i m : Nat) : List UInt64:=(List.range m).map (spw F i)
theorem qpd (F : Nat→UInt8) (i m : Nat) : (spL F i m).length = m:=by simp [spL]
theorem spL_zero (F : Nat→UInt8) (m : Nat) : spL F 0 m = List.replicate m 0:=by
 unfold spL
 apply List.ext_getElem (by simp)
 intro j h1 h2
 simp [spw,acw]
theorem spw_ne (F : Nat→UInt8) {i q : Nat} (h : q ≠ i / 8) : spw F (i + 1) q = spw F i q:=by
 unfold spw
 congr 1
 omega
theorem spw_eq (F : Nat→UInt8) (i : Nat) : spw F (i + 1) (i / 8) = spw F i (i / 8) ||| (F i).toUInt64 * u64 (2 ^ (8 * (i % 8))):=by
 unfold spw
 have h1 : min 8 (i - 8 * (i / 8)) = i % 8:=by omega
 have h2 : min 8 (i + 1 - 8 * (i / 8)) = i % 8 + 1:=by omega
 rw [h1,h2]
 show acw F (i / 8) (i % 8) ||| (F (8 * (i / 8) + i % 8)).toUInt64 * u64 (2 ^ (8 * (i % 8))) = _
 rw [show 8 * (i / 8) + i % 8 = i from by omega]
theorem spL_set (F : Nat→UInt8) (i m : Nat) (h : i / 8 < m) : (spL F i m).set (i / 8) (spw F i (i / 8) ||| (F i).toUInt64 * u64 (2 ^ (8 * (i % 8)))) = spL F (i + 1) m:=by
 rw [← spw_eq]
 unfold spL
 apply List.ext_getElem (by simp)
 intro j h1 h2
 rw [List.getElem_set]
 split
 ·rename_i e
  subst e
  simp
 ·rename_i e
  simp [spw_ne F (Ne.symm e)]
def wsum (ws : List UInt64) : Nat:=match ws with
 | []=>0
 | x :: r=>x.toNat + 18446744073709551616 * wsum r
theorem qmm (F : Nat→UInt8) : ∀ (m i o : Nat),i ≤ 8 * m→wsum ((List.range m).map fun q=>acw F (o + q) (min 8 (i - 8 * q))) = bsum (fun j=>F (8 * o + j)) i
 | 0,i,o,h=>by
  have : i = 0:=by omega
  subst this
  rfl
 | m + 1,i,o,h=>by
  rw [List.range_succ_eq_map,List.map_cons,List.map_map]
  have ih:=qmm F m (i - 8) (o + 1) (by omega)
  have e : ((fun q=>acw F (o + q) (min 8 (i - 8 * q))) ∘ Nat.succ) = fun q=>acw F (o + 1 + q) (min 8 (i - 8 - 8 * q)):=by
   funext q
   show acw F (o + (q + 1)) (min 8 (i - 8 * (q + 1))) = _
   congr 1
   ·omega
   ·omega
  rw [e]
  show (acw F (o + 0) (min 8 (i - 8 * 0))).toNat + 18446744073709551616 * _ = _
  rw [ih,qen _ _ _ (by omega)]
  simp only [Nat.add_zero,Nat.mul_zero,Nat.sub_zero]
  by_cases hi : i ≤ 8
  ·have h0 : i - 8 = 0:=by omega
   rw [h0,show min 8 i = i from by omega]
   exact Nat.add_zero _
  ·have h0:=qev (fun j=>F (8 * o + j)) 8 (i - 8)
   rw [show 8 + (i - 8) = i from by omega] at h0
   rw [h0,show min 8 i = 8 from by omega]
   have e2 : (fun j=>F (8 * (o + 1) + j)) = (fun j=>(fun j=>F (8 * o + j)) (8 + j)):=by
    funext j
    show F _ = F _
    congr 1
    omega
   rw [e2]
end Go.Cv
namespace Go.Proofs.YtgeihelkkhjjaaaGreatDoor
open Go.RowKit Go.Cv
theorem qng : (Tryz.prog.info? 73).map (fun i=>(i.zero,i.size,i.bytes)) = some (some (.int .u64 0),1,8):=by kernel_rfl
theorem qhy (A : Option Addr) (n c : Nat) (l : List UInt8) (w : World) (hl : l.length = n) (hr : Rd w A (l.map bv)) (bnd : n ≤ 64) :
  Calls Tryz.prog 46 #[.slice A n c] w fun e w'=>∃ m b ws,e = .returned (.slice (some ⟨b,0,none⟩) m m)∧m = (n + 7) / 8∧w.heap.size ≤ b∧Row w' b 73 (ws.map wq)∧ws.length = m∧wsum ws = bsum (fun j=>l.getD j 0) n∧Ext w w':=by
 obtain ⟨iW,hiW,hzW,hsW,hbW⟩:=info_parts qng
 obtain ⟨m,hm⟩ : ∃ m,m = (n + 7) / 8:=⟨_,rfl⟩
 have hm8 : n ≤ 8 * m:=by omega
 have hm9 : m ≤ 8:=by omega
 have hw0:=qmm (fun j=>l.getD j 0) m n 0 hm8
 have q1 : ((n : Int) + 7) / 8 = (m : Int):=by omega
 have q2 : ((n : Int) + 7).tdiv 8 = (m : Int):=by rw [Int.tdiv_eq_ediv_of_nonneg (by omega)];omega
 have hmk:=run_makeSlice (P:=Tryz.prog) w 71 73 iW (.int .u64 0) Tryz.underlying71 hiW hzW .i64 .i64 (m : Int) (m : Int) (by omega) (by omega) (by rw [hsW];omega) (by rw [hbW];omega) (by omega)
 rw [hsW] at hmk
 obtain ⟨W,hW⟩ : ∃ W,W = w.alloc (.cells (madeCells (Value.int .u64 0).cells (((m : Int)).toNat * 1)) 73):=⟨_,rfl⟩
 rw [← hW] at hmk
 obtain ⟨b,hb⟩ : ∃ b,b = w.heap.size:=⟨_,rfl⟩
 rw [← hb] at hmk
 simp only [Int.toNat_natCast] at hmk
 have hRw : Row W b 73 ((spL (fun j=>l.getD j 0) 0 m).map wq):=by
  rw [hW,hb,spL_zero,List.map_replicate]
  have e : (madeCells (Value.int .u64 0).cells (((m : Int)).toNat * 1)) = (List.replicate m (wq 0)).toArray:=by
   apply Array.ext
   ·simp [madeCells]
   ·intro i h1 h2
    simp [madeCells,Nat.mod_one,wq,Value.cells]
    rfl
  rw [e]
  exact Row.alloc w _ _
 have hx : Ext w W:=by rw [hW];exact qaa _ _
 have hbx : w.heap.size ≤ b:=by omega
 have hmx:=Lib.hid hm
 have HL:=Lib.hid hl
 clear hW hb hm hl
 go_enter Tryz.func46,Tryz.ntmps46
 go_upto_region 3 with fail
 go_loopw [13] (fun v13 wr=>∃ i : Nat,i ≤ n∧v13 = .int .i64 i∧Row wr b 73 ((spL (fun j=>l.getD j 0) i m).map wq)∧Keep [b] W wr) (fun v13 _=>n - (intOf v13).toNat)
 case atStart=>exact ⟨0,Nat.zero_le _,rfl,hRw,Keep.refl _ _⟩
 case round =>
  obtain ⟨i,hin,rfl,hR,hK⟩:=hrel
  have hxr : Ext w wr:=Ext.keep_ hx hK (by simpa using hbx)
  by_cases hlt : i < n
  ·have hltI : (i : Int) < (n : Int):=by omega
   have hil : i < l.length:=by rw [HL.out];exact hlt
   obtain ⟨ad,rfl,hcell⟩:=(hr.ext hxr).at_ (k:=i) (by rw [List.length_map];exact hil)
   rw [List.getElem_map] at hcell
   have hget : l[i]'hil = (fun j=>l.getD j 0) i:=by simp [List.getD,List.getElem?_eq_getElem hil]
   rw [hget] at hcell
   obtain ⟨F,hF⟩ : ∃ F : Nat→UInt8,F = fun j=>l.getD j 0:=⟨_,rfl⟩
   rw [← hF] at hcell hR
   rw [← hF]
   have hFx:=Lib.hid hF
   clear hF hget
   obtain ⟨q,hq⟩ : ∃ q,q = i / 8:=⟨_,rfl⟩
   obtain ⟨k,hk⟩ : ∃ k,k = i % 8:=⟨_,rfl⟩
   have hqm : q < m:=by have:=hmx.out;omega
   have hqmI : (q : Int) < (m : Int):=by omega
   have hq0 : 0 ≤ (q : Int):=by omega
   have d1 : (i : Int) / 8 = (q : Int):=by omega
   have d2 : (i : Int).tdiv 8 = (q : Int):=by rw [Int.tdiv_eq_ediv_of_nonneg (by omega)];omega
   have r1 : (i : Int) % 8 = (k : Int):=by omega
   have r2 : (i : Int).tmod 8 = (k : Int):=by rw [Int.tmod_eq_emod_of_nonneg (by omega)];omega
   obtain ⟨e,he⟩ : ∃ e,e = 8 * k:=⟨_,rfl⟩
   have e1 : 8 * (k : Int) = (e : Int):=by omega
   have e2 : 0 ≤ (e : Int):=by omega
   have e3 : (e : Int) < 64:=by omega
   have cq : wr.cell? ⟨b,q,none⟩ = some (.int .u64 (n64 (spw F i q))):=by
    rw [hR.cell (by rw [List.length_map,qpd];exact hqm),List.getElem_map]
    simp [spL,wq]
   have fq:=hR.fro q
   have hR2:=hR.set q (.int .u64 (n64 (spw F i q ||| (F i).toUInt64 * u64 (2 ^ e))))
   have hset : (List.map wq (spL F i m)).set q (.int .u64 (n64 (spw F i q ||| (F i).toUInt64 * u64 (2 ^ e)))) = (spL F (i + 1) m).map wq:=by
    rw [← spL_set F i m (by omega),← hq,← hk,he,List.map_set]
    rfl
   rw [hset] at hR2
   have hK2:=hK.same (Keep.setCell wr ⟨b,q,none⟩ (.int .u64 (n64 (spw F i q ||| (F i).toUInt64 * u64 (2 ^ e)))))
   have hmeas : n - (i + 1) < n - i:=by omega
   have hi1 : i + 1 ≤ n:=hlt
   have hi64 : i < 64:=by omega
   clear hset hR hK he hq hk hil
   go_upto_region 5 with fail
   go_region
   all_goals
    go_wp2
    exact ⟨⟨i + 1,hi1,by go_num,hR2,⟨hK2.os,hK2.tape,hK2.output,hK2.size,hK2.keep⟩⟩,by simpa [intOf] using hmeas⟩
  ·obtain rfl : i = n:=by omega
   go_wp2
   go_ret
   refine ⟨m,b,spL (fun j=>l.getD j 0) i m,rfl,hmx.out,hbx,hR,qpd _ _ _,?_,hxr⟩
   simp only [Nat.zero_add,Nat.mul_zero] at hw0
   exact hw0
end Go.Proofs.YtgeihelkkhjjaaaGreatDoor
end
section
namespace Go.Cv
open Go.RowKit
def Lw : Nat→UInt64
 | 0=>6346243789798364141
 | 1=>1503914060200516822
 | 2=>0
 | _=>1152921504606846976
theorem Lw_val : val4 (Lw 0) (Lw 1) (Lw 2) (Lw 3) = ordN:=by decide
def rw4 (a : Nat→UInt64) : List Value:=(List.range 4).map fun j=>wq (a j)
theorem rw4_eq (a : Nat→UInt64) : rw4 a = [wq (a 0),wq (a 1),wq (a 2),wq (a 3)]:=rfl
theorem qpn (a : Nat→UInt64) : (rw4 a).length = 4:=rfl
theorem rw4_get (a : Nat→UInt64) {k : Nat} (h : k < 4) : (rw4 a)[k]'(by rw [qpn];exact h) = wq (a k):=by simp [rw4]
def mixw (k : Nat) (n a : Nat→UInt64) : Nat→UInt64:=fun j=>if j < k then n j else a j
theorem qm9 (n a : Nat→UInt64) : mixw 0 n a = a:=by funext j;simp [mixw]
theorem qmz (n a : Nat→UInt64) : rw4 (mixw 4 n a) = rw4 n:=by
 simp [rw4_eq,mixw]
theorem mix_at (n a : Nat→UInt64) (k : Nat) : mixw k n a k = a k:=by simp [mixw]
theorem qpm (n a : Nat→UInt64) {k : Nat} (h : k < 4) : (rw4 (mixw k n a)).set k (wq (n k)) = rw4 (mixw (k + 1) n a):=by
 unfold rw4
 apply List.ext_getElem (by simp)
 intro j h1 h2
 rw [List.getElem_set]
 simp only [List.length_map,List.length_range] at h1 h2
 split
 ·rename_i e
  subst e
  simp [mixw]
 ·rename_i e
  simp only [List.getElem_map,List.getElem_range,mixw]
  by_cases hj : j < k
  ·rw [if_pos hj,if_pos (by omega)]
  ·rw [if_neg hj,if_neg (by omega)]
def shc (a : Nat→UInt64) (b : UInt64) : Nat→UInt64
 | 0=>b
 | j + 1=>a j >>> 63
def shn (a : Nat→UInt64) (b : UInt64) (j : Nat) : UInt64:=a j <<< 1 ||| shc a b j
def lsb (a : Nat→UInt64) : Nat→Bool
 | 0=>false
 | j + 1=>sbbC (a j) (Lw j) (lsb a j)
def lsn (a : Nat→UInt64) (j : Nat) : UInt64:=sbbS (a j) (Lw j) (lsb a j)
theorem qje (x c : UInt64) (hc : c.toNat ≤ 1) : (x <<< 1 ||| c).toNat + 18446744073709551616 * (x >>> 63).toNat = 2 * x.toNat + c.toNat:=by
 have hx:=x.toNat_lt
 rw [UInt64.toNat_or,UInt64.toNat_shiftLeft,UInt64.toNat_shiftRight]
 simp only [UInt64.toNat_ofNat,Nat.reduceMod,Nat.reducePow,Nat.shiftLeft_eq,Nat.shiftRight_eq_div_pow]
 have h1 : x.toNat * 2 % 18446744073709551616 ||| c.toNat = x.toNat * 2 % 18446744073709551616 + c.toNat:=by
  have h2 : x.toNat * 2 % 18446744073709551616 = 2 ^ 1 * (x.toNat % 9223372036854775808):=by omega
  rw [h2,← Nat.two_pow_add_eq_or_of_lt (by omega)]
 rw [h1]
 omega
theorem qpi (x : UInt64) : (x >>> 63).toNat ≤ 1:=by
 have hx:=x.toNat_lt
 rw [UInt64.toNat_shiftRight]
 simp only [UInt64.toNat_ofNat,Nat.reduceMod,Nat.reducePow,Nat.shiftRight_eq_div_pow]
 omega
def v4 (a : Nat→UInt64) : Nat:=val4 (a 0) (a 1) (a 2) (a 3)
theorem shn_val (a : Nat→UInt64) (b : UInt64) (hb : b.toNat ≤ 1) (h : v4 a < 2 ^ 255) : v4 (shn a b) = 2 * v4 a + b.toNat:=by
 have h0:=qje (a 0) b hb
 have h1:=qje (a 1) (a 0 >>> 63) (qpi _)
 have h2:=qje (a 2) (a 1 >>> 63) (qpi _)
 have h3:=qje (a 3) (a 2 >>> 63) (qpi _)
 unfold v4 val4 at *
 unfold shn
 simp only [shc]
 omega
theorem lsn_val (a : Nat→UInt64) : v4 (lsn a) + ordN = v4 a + 2 ^ 256 * bn (lsb a 4):=by
 have h0:=qe3 (a 0) (Lw 0) false
 have h1:=qe3 (a 1) (Lw 1) (lsb a 1)
 have h2:=qe3 (a 2) (Lw 2) (lsb a 2)
 have h3:=qe3 (a 3) (Lw 3) (lsb a 3)
 rw [← Lw_val]
 have f : bn false = 0:=rfl
 unfold v4 val4 lsn
 simp only [lsb] at *
 omega
theorem rest_step {N r b : Nat} {a n : Nat→UInt64} (ha : v4 a = N % ordN) (hb : b ≤ 1) (hn : v4 n = 2 * v4 a + b) : v4 (if lsb n 4 then n else lsn n) = (2 * N + b) % ordN:=by
 have h1:=lsn_val n
 have hL : ordN = 2 ^ 252 + 27742317777372353535851937790883648493:=rfl
 have h2 : N % ordN < ordN:=Nat.mod_lt _ (by rw [hL];decide)
 have hlt : v4 (lsn n) < 2 ^ 256:=qdf _ _ _ _
 have h3 : (2 * N + b) % ordN = (2 * (N % ordN) + b) % ordN:=by
  rw [Nat.add_mod,Nat.mul_mod,Nat.add_mod (2 * (N % ordN)),Nat.mul_mod 2 (N % ordN),Nat.mod_mod]
 rw [h3,← ha,← hn]
 have h4 : v4 n < 2 * ordN:=by omega
 cases hc : lsb n 4
 ·rw [hc] at h1
  have f : bn false = 0:=rfl
  rw [if_neg (by simp)]
  have : v4 (lsn n) = v4 n - ordN:=by omega
  rw [this,Nat.mod_eq_sub_mod (by omega),Nat.mod_eq_of_lt (by omega)]
 ·rw [hc] at h1
  have f : bn true = 1:=rfl
  rw [if_pos rfl]
  rw [Nat.mod_eq_of_lt (by omega)]
theorem qmn : ∀ (ws : List UInt64) (q k : Nat),k < 64→wsum ws / 2 ^ (64 * q + k) % 2 = ((ws.getD q 0).toNat / 2 ^ k) % 2
 | [],q,k,hk=>by simp [wsum]
 | x :: r,0,k,hk=>by
  have hx:=x.toNat_lt
  show (x.toNat + 18446744073709551616 * wsum r) / 2 ^ (64 * 0 + k) % 2 = (x.toNat / 2 ^ k) % 2
  have e : (18446744073709551616 : Nat) = 2 ^ k * (2 * 2 ^ (63 - k)):=by
   rw [← Nat.mul_assoc,Nat.mul_right_comm,← Nat.pow_add,show k + (63 - k) = 63 from by omega]
  rw [Nat.mul_zero,Nat.zero_add,e,Nat.mul_assoc,Nat.add_mul_div_left _ _ (Nat.pow_pos (by decide)),Nat.mul_assoc,Nat.add_mul_mod_self_left]
 | x :: r,q + 1,k,hk=>by
  have hx:=x.toNat_lt
  have ih:=qmn r q k hk
  show (x.toNat + 18446744073709551616 * wsum r) / 2 ^ (64 * (q + 1) + k) % 2 = ((r.getD q 0).toNat / 2 ^ k) % 2
  rw [← ih,show 64 * (q + 1) + k = 64 + (64 * q + k) from by omega,Nat.pow_add,← Nat.div_div_eq_div_mul]
  congr 2
  rw [show (2 : Nat) ^ 64 = 18446744073709551616 from rfl,Nat.add_mul_div_left _ _ (by decide),Nat.div_eq_of_lt (by omega),Nat.zero_add]
theorem qoz : ∀ ws : List UInt64,wsum ws < 2 ^ (64 * ws.length)
 | []=>by simp [wsum]
 | x :: r=>by
  have hx:=x.toNat_lt
  have ih:=qoz r
  show x.toNat + 18446744073709551616 * wsum r < _
  rw [List.length_cons,show 64 * (r.length + 1) = 64 + 64 * r.length from by omega,Nat.pow_add,show (2 : Nat) ^ 64 = 18446744073709551616 from rfl]
  omega
theorem qn4 (N i : Nat) : N / 2 ^ i = 2 * (N / 2 ^ (i + 1)) + N / 2 ^ i % 2:=by
 rw [Nat.pow_succ,← Nat.div_div_eq_div_mul]
 omega
theorem RV.opt {w : World} {n : Nat} {T : TypeId} {F : Nat→UInt8} (h : RV w n T (fun u=>u = .agg (qab F))) : qcr w n = some (qab F):=by
 obtain ⟨cs,h1,h2⟩:=h
 have h3:=qgb h2
 subst h3
 unfold qcr
 unfold Row at h1
 rw [h1]
 simp
theorem qqa (s : Nat) (h : s < 64) : (UInt64.ofNat s).toNat = s:=by
 rw [UInt64.toNat_ofNat'];omega
theorem shr_q (x : UInt64) (s : Nat) (h : s < 64) : n64 x / 2 ^ s = n64 (x >>> UInt64.ofNat s):=by
 show (x.toNat : Int) / 2 ^ s = (((x >>> UInt64.ofNat s).toNat : Nat) : Int)
 rw [UInt64.toNat_shiftRight,qqa s h,Nat.mod_eq_of_lt h,Nat.shiftRight_eq_div_pow]
 simp
theorem bit_q (x : UInt64) (s : Nat) (h : s < 64) : (x >>> UInt64.ofNat s &&& 1).toNat = x.toNat / 2 ^ s % 2:=by
 rw [UInt64.toNat_and,UInt64.toNat_shiftRight,qqa s h,Nat.mod_eq_of_lt h,Nat.shiftRight_eq_div_pow]
 show _ &&& 1 = _
 rw [Nat.and_one_is_mod]
theorem Row.q {w : World} {b : Nat} {T : TypeId} {a : Nat→UInt64} (h : Row w b T (rw4 a)) {k : Nat} (hk : k < 4) : w.cell? ⟨b,k,none⟩ = some (.int .u64 (n64 (a k))):=by
 rw [h.cell (by rw [qpn];exact hk),rw4_get a hk]
 rfl
theorem Row.store4 {w : World} {b : Nat} {T : TypeId} {a : Nat→UInt64} (h : Row w b T (rw4 a)) (n : Nat→UInt64) :
  Row ((((w.setCell ⟨b,0,none⟩ (.int .u64 (n64 (n 0)))).setCell ⟨b,1,none⟩ (.int .u64 (n64 (n 1)))).setCell ⟨b,2,none⟩ (.int .u64 (n64 (n 2)))).setCell ⟨b,3,none⟩ (.int .u64 (n64 (n 3)))) b T (rw4 n):=by
 have:=(((h.set 0 (.int .u64 (n64 (n 0)))).set 1 (.int .u64 (n64 (n 1)))).set 2 (.int .u64 (n64 (n 2)))).set 3 (.int .u64 (n64 (n 3)))
 exact this
theorem Keep.store4 (w : World) (b : Nat) (x0 x1 x2 x3 : Value) : Keep [b] w ((((w.setCell ⟨b,0,none⟩ x0).setCell ⟨b,1,none⟩ x1).setCell ⟨b,2,none⟩ x2).setCell ⟨b,3,none⟩ x3) :=
 (((Keep.setCell w ⟨b,0,none⟩ x0).same (Keep.setCell _ ⟨b,1,none⟩ x1)).same (Keep.setCell _ ⟨b,2,none⟩ x2)).same (Keep.setCell _ ⟨b,3,none⟩ x3)
theorem byte_q (a : Nat→UInt64) {j q t e : Nat} (hj : j < 32) (hq : q = j / 8) (ht : t = j % 8) (he : e = 8 * t) : (a q >>> UInt64.ofNat e).toUInt8 = nb (v4 a) j:=by
 unfold v4
 rw [← qi9 _ _ _ _ hj]
 have hs : wsel (a 0) (a 1) (a 2) (a 3) (j / 8) = a q:=by
  rw [← hq]
  rcases (by omega : q = 0 ∨ q = 1 ∨ q = 2 ∨ q = 3) with h | h | h | h <;> subst h <;> rfl
 unfold qco
 rw [hs,← ht,← he,shr_q _ _ (by omega)]
 exact (qo5 _).symm
end Go.Cv
end
