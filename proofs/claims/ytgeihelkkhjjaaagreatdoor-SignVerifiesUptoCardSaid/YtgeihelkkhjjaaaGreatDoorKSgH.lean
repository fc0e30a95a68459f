/-
  Texts of the lemmas below the claim, put together: SgS RefR SgH SgN.
-/
import Derived.Test.YtgeihelkkhjjaaaGreatDoorKSgB
import Derived.Test.YtgeihelkkhjjaaaGreatDoorKHashR
import Derived.Test.YtgeihelkkhjjaaaGreatDoorKSB
import Derived.Test.YtgeihelkkhjjaaaGreatDoorKPt
import Derived.Test.YtgeihelkkhjjaaaGreatDoorKRC
import Derived.Test.YtgeihelkkhjjaaaGreatDoorKStp
import Derived.Test.YtgeihelkkhjjaaaGreatDoorKTim
import Derived.Test.YtgeihelkkhjjaaaGreatDoorKHashS
set_option linter.unusedSimpArgs false
set_option linter.unusedVariables false
set_option maxHeartbeats 4000000
section
namespace Go.Cv
open Go.RowKit Go.Cv.Pr Go.Cv.Grp Go.Cv.Hash
theorem qn5 {n : Nat} [NeZero n] (x y d u i : Fin n) (h1 : (d * (y * y) + 1) * i = 1) (hu : u = (y * y - 1) * i) (hx : x * x = u) : y * y - x * x = 1 + d * (x * x) * (y * y):=by grind
theorem neg_sq_ {n : Nat} [NeZero n] (x : Fin n) : (0 - x) * (0 - x) = x * x:=by grind
theorem decX_on {b : Nat→UInt8} {x : F7} (h : decX b = some x) : C7.on x (decY b):=by
 have key : ∀ z : F7,z * z = decU (decY b)→C7.on z (decY b):=fun z hz=>qn5 z _ C7.d _ _ (qe6 _ (qrk _)) rfl hz
 have no : ∀ {z : F7},(none : Option F7) = some z→False:=fun h=>Option.some_ne_none _ h.symm
 unfold decX at h
 by_cases h1 : V (decG b) < pp
 ·rw [if_pos h1] at h
  by_cases h2 : okF (decU (decY b)) = true
  ·rw [if_pos h2] at h
   have hs:=rtF_sq h2
   by_cases h3 : (b 31 >>> 7 == 1) = true
   ·rw [if_pos h3] at h
    by_cases h4 : rtF (decU (decY b)) = 0
    ·rw [if_pos h4] at h
     exact (no h).elim
    ·rw [if_neg h4] at h
     rw [← Option.some.inj h]
     exact key _ (by rw [neg_sq_];exact hs)
   ·rw [if_neg h3] at h
    rw [← Option.some.inj h]
    exact key _ hs
  ·rw [if_neg h2] at h
   exact (no h).elim
 ·rw [if_neg h1] at h
  exact (no h).elim
open Classical in
noncomputable def decP (b : Nat→UInt8) : Option P7:=if h : ∃ P : P7,decX b = some P.x∧decY b = P.y then some h.choose else none
theorem qrm {b : Nat→UInt8} {P : P7} (h1 : decX b = some P.x) (h2 : decY b = P.y) : decP b = some P:=by
 have h : ∃ P : P7,decX b = some P.x∧decY b = P.y:=⟨P,h1,h2⟩
 unfold decP
 rw [dif_pos h]
 exact congrArg some (Pt.ext_ (Option.some.inj (h.choose_spec.1.symm.trans h1)) (h.choose_spec.2.symm.trans h2))
theorem qek {b : Nat→UInt8} {P : P7} (h : decP b = some P) : decX b = some P.x∧decY b = P.y:=by
 unfold decP at h
 split at h
 ·rename_i he
  injection h with h
  rw [← h];exact he.choose_spec
 ·cases h
theorem qk6 {b : Nat→UInt8} (h : decP b = none) : decX b = none:=by
 cases hx : decX b with
 | none=>rfl
 | some x =>
  rw [qrm (P:=⟨x,decY b,decX_on hx⟩) hx rfl] at h
  cases h
theorem qj1 (P : P7) : decP (encF P.x P.y) = some P:=qrm (decX_enc P) (qnp P.x P.y)
theorem qor {f g : Nat→UInt8} (h : ∀ i,i < 32→f i = g i) : decX f = decX g∧decY f = decY g:=by
 have h1 : ∀ i,i < 32→decG f i = decG g i:=fun i hi=>by
  unfold decG updb
  by_cases e : i = 31
  ·rw [if_pos e,if_pos e,h 31 (by decide)]
  ·rw [if_neg e,if_neg e,h i hi]
 have h2 : V (decG f) = V (decG g):=qb8 32 h1
 have h3 : decY f = decY g:=by unfold decY;rw [h2]
 refine ⟨?_,h3⟩
 unfold decX
 rw [h2,h3,h 31 (by decide)]
theorem qg4 {f g : Nat→UInt8} (h : ∀ i,i < 32→f i = g i) : decP f = decP g:=by
 unfold decP
 obtain ⟨h1,h2⟩:=qor h
 rw [h1,h2]
def lf (l : List UInt8) (k : Nat) : Nat→UInt8:=fun j=>l.getD (k + j) 0
theorem qdz (f : Nat→UInt8) : ∀ i,i < 32→lf (qao f) 0 i = f i:=fun i hi=>by
 unfold lf qao
 simp [List.getD,hi]
theorem qnu (l : List UInt8) (k : Nat) (h : k + 32 ≤ l.length) : qao (lf l k) = (l.drop k).take 32:=by
 apply List.ext_getElem
 ·rw [qau];simp;omega
 ·intro i h1 h2
  rw [qau] at h1
  unfold qao lf
  simp [List.getD,List.getElem?_eq_getElem (show k + i < l.length by omega)]
theorem qmk {f g : Nat→UInt8} (h : ∀ i,i < 32→f i = g i) : V f = V g:=qb8 32 h
def qbu (f : Nat→UInt8) : List UInt8:=Hash.hash64 (qao f)
theorem qg2 (l : List UInt8) : (Hash.hash64 l).length = 64:=by unfold Hash.hash64 Hash.digest64;simp
def sNum (h : List UInt8) : Nat→UInt8:=fun i=>if i = 31 then (h.getD 31 0 &&& 63) ||| 64 else if i = 0 then h.getD 0 0 &&& 248 else h.getD i 0
def sKey (k : Nat→UInt8) : Nat→UInt8:=encF (Pt.mul (V k) B7).x (Pt.mul (V k) B7).y
def sDig (l : List UInt8) : Nat→UInt8:=nb (bsum (fun j=>(Hash.hash64 l).getD j 0) 64 % ordN)
def sSig (a m : Nat→UInt8) (t : List UInt8) : List UInt8 :=
 qao (sKey (sDig (qao m ++ t))) ++ qao (nb ((V (sDig (qao (sKey (sDig (qao m ++ t))) ++ (qao (sKey a) ++ t))) * V a + V (sDig (qao m ++ t))) % ordN))
theorem qmy (a m : Nat→UInt8) (t : List UInt8) : (sSig a m t).length = 64:=by unfold sSig;simp [qau]
noncomputable def sChk (P : P7) (k s : Nat→UInt8) : Nat→UInt8:=encF ((Pt.mul (V s) B7).add (Pt.mul (V k) P.neg)).x ((Pt.mul (V s) B7).add (Pt.mul (V k) P.neg)).y
noncomputable def qlt (o : Option P7) (k : Nat→UInt8) (g : List UInt8) : Bool:=match o with | none=>false | some P=>qao (sChk P k (lf g 32)) == g.take 32
noncomputable def sVer (key t g : List UInt8) : Bool :=
 if key.length = 32 then (if g.length = 64 then (if V (lf g 32) < ordN then qlt (decP (lf key 0)) (sDig (g.take 32 ++ (key ++ t))) g else false) else false) else false
theorem qqo (f : Nat→UInt8) : beqb (nb (V f % ordN)) f = decide (V f < ordN):=by
 have hV:=V_lt f
 by_cases h : V f < ordN
 ·rw [decide_eq_true h,Nat.mod_eq_of_lt h]
  exact (qdm _ _).2 (nb_Vt f)
 ·rw [decide_eq_false h]
  rw [Bool.eq_false_iff]
  intro hb
  have:=qmk ((qdm _ _).1 hb)
  rw [V_nb (Nat.lt_trans (Nat.mod_lt _ (by decide)) (by decide))] at this
  exact h (this ▸ Nat.mod_lt _ (by decide))
theorem sVer_sig (a m : Nat→UInt8) (t : List UInt8) : sVer (qao (sKey a)) t (sSig a m t) = true:=by
 obtain ⟨r,hr⟩ : ∃ r,r = sDig (qao m ++ t):=⟨_,rfl⟩
 have e1 : sSig a m t = qao (sKey r) ++ qao (nb ((V (sDig (qao (sKey r) ++ (qao (sKey a) ++ t))) * V a + V r) % ordN)):=by rw [hr];rfl
 obtain ⟨k,hk⟩ : ∃ k,k = sDig (qao (sKey r) ++ (qao (sKey a) ++ t)):=⟨_,rfl⟩
 rw [← hk] at e1
 obtain ⟨S,hS⟩ : ∃ S,S = nb ((V k * V a + V r) % ordN):=⟨_,rfl⟩
 rw [← hS] at e1
 have ht : (sSig a m t).take 32 = qao (sKey r):=by rw [e1,List.take_append_of_le_length (by rw [qau];omega),List.take_of_length_le (by rw [qau];omega)]
 have hl : ∀ i,i < 32→lf (sSig a m t) 32 i = S i:=fun i hi=>by
  rw [e1]
  unfold lf
  have h2:=qdz S i hi
  unfold lf at h2
  rw [Nat.zero_add] at h2
  rw [← h2]
  simp only [List.getD_eq_getElem?_getD]
  rw [List.getElem?_append_right (by rw [qau];omega),qau,Nat.add_sub_cancel_left]
 have hV : V (lf (sSig a m t) 32) = (V k * V a + V r) % ordN:=by
  rw [qmk hl,hS,V_nb (Nat.lt_trans (Nat.mod_lt _ (by decide)) (by decide))]
 unfold sVer
 rw [if_pos (qau _),if_pos (qmy _ _ _),if_pos (hV ▸ Nat.mod_lt _ (by decide)),ht,← hk]
 rw [qg4 (qdz (sKey a))]
 unfold sKey at *
 rw [qj1]
 show (qao (sChk _ k (lf (sSig a m t) 32)) == (sSig a m t).take 32) = true
 rw [ht]
 unfold sChk
 rw [hV,qn2]
 exact beq_self_eq_true _
end Go.Cv
end
section
namespace Go.Proofs.YtgeihelkkhjjaaaGreatDoor
open Go.RowKit Go.Cv Go.Cv.Dig
end Go.Proofs.YtgeihelkkhjjaaaGreatDoor
end
section
namespace Go.Cv
open Go Go.RowKit Go.Cv.Hash
theorem qnw (n a b : Nat) : (⟨n,a,none⟩ : Addr).add b = ⟨n,a + b,none⟩:=by unfold Addr.add;split <;> simp_all
theorem qlc (l : List UInt8) (k : Nat) (h : k + 32 ≤ l.length) : ((l.map bv).drop k).take 32 = (qab (lf l k)).toList:=by
 rw [qbl]
 simp only [qnu l k h,List.map_take,List.map_drop]
 rfl
theorem qhd (f : Nat→UInt8) : (qab f).toList = (qao f).map bv:=by rw [qbl];rfl
theorem Rd.row {w : World} {n : Nat} {T : TypeId} {cs : List Value} (h : Row w n T cs) : Rd w (some ⟨n,0,none⟩) cs:=fun k v hv=>by
 have hk : k < cs.length:=by
  rcases Nat.lt_or_ge k cs.length with h0 | h0
  ·exact h0
  ·rw [List.getElem?_eq_none h0] at hv;cases hv
 refine ⟨⟨n,0,none⟩,rfl,?_⟩
 rw [qnw,Nat.zero_add,h.cell hk]
 rw [List.getElem?_eq_getElem hk] at hv
 exact hv
theorem Rd.at_off {w : World} {n k : Nat} {T : TypeId} {cs : List Value} (h : Row w n T cs) : Rd w (some ⟨n,k,none⟩) (cs.drop k):=fun j v hv=>by
 rw [List.getElem?_drop] at hv
 have hk : k + j < cs.length:=by
  rcases Nat.lt_or_ge (k + j) cs.length with h0 | h0
  ·exact h0
  ·rw [List.getElem?_eq_none h0] at hv;cases hv
 refine ⟨⟨n,k,none⟩,rfl,?_⟩
 rw [qnw,h.cell hk]
 rw [List.getElem?_eq_getElem hk] at hv
 exact hv
theorem Rd.take_ {w : World} {A : Option Addr} {cs : List Value} (h : Rd w A cs) (k : Nat) : Rd w A (cs.take k):=fun j v hv=>by
 rw [List.getElem?_take] at hv
 split at hv
 ·exact h j v hv
 ·cases hv
section
variable {P : Program} {w : World} {o : Oper} {ev : Operand→Value} {R : Value→World→Prop} {n : Nat}
theorem qk0 (ty : TypeId) (x : Operand) (ho : o.op = .load ty x) (ad : Addr) (hx : ev x = .pointer (some ad)) (part : List Value) (hr : Rd w (some ad) part) (d : TypeDesc)
  (hu : P.underlying ty = some d) (hd : (match d with | .struct _ | .array _ _=>true | _=>false) = true) (hi : (P.info? ty).map (·.size) = some part.length) (h : R (.agg part.toArray) w) : qak P R ((execOp ev o).run P w):=by
 have hl : (loadCells ad part.length).run P w = .ok part.toArray w :=
  run_loadCells_list (P:=P) w ad part (fun j v hv=>by
   obtain ⟨ad',e,hc⟩:=hr j v hv
   injection e with e
   rw [e];exact hc)
 have hagg : (isAgg ty).run P w = .ok true w:=by
  unfold isAgg
  rw [Sem.run_bind,run_underlying hu w]
  cases d <;> simp_all
 unfold execOp
 cases hq : P.info? ty with
 | none=>simp [hq] at hi
 | some i =>
  have hs : i.size = part.length:=by simpa [hq] using hi
  simp only [ho,hx,Instr.loadAt,Instr.sureAddr,loadVar,Sem.run_bind,Sem.run_pure,Result.andThen_ok,hagg]
  simp [Go.sizeOf,typeInfo,hq,hs,hl]
  exact h
theorem qc6 (ty : TypeId) (x : Operand) (ho : o.op = .sliceToArrayPointer ty x) (A : Option Addr) (m c k : Nat) (e : TypeId) (hx : ev x = .slice A m c) (hu : P.underlying ty = some (.array k e)) (hk : k ≤ m) (h : R (.pointer A) w) : qak P R ((execOp ev o).run P w):=by
 unfold execOp
 have hn : ¬ m < k:=by omega
 simp [ho,hx,Instr.arrayAt,run_underlying hu,hn]
 exact h
end
end Go.Cv
namespace Go.Proofs.YtgeihelkkhjjaaaGreatDoor
open Go.RowKit Go.Cv Go.Cv.Pr Go.Cv.Grp Go.Cv.Hash
theorem u64a : Tryz.prog.underlying 26 = some (.array 64 5):=Tryz.underlying26
section
variable {w : World} {o : Oper} {ev : Operand→Value} {R : Value→World→Prop} {n : Nat} {f g : Nat→UInt8} {l : List UInt8}
def h64 (l : List UInt8) : Value:=.agg (l.map bv).toArray
theorem hL_of {cs : List Value} (h : (.agg cs.toArray : Value) = h64 l) : cs = l.map bv:=by
 unfold h64 at h
 injection h with h
 have:=congrArg Array.toList h
 simpa using this
theorem al_H (ho : o.op = .alloc 26) (h : ∀ cs : List Value,cs.length = 64→R (.pointer (some ⟨w.heap.size,0,none⟩)) (w.alloc (.cells cs.toArray 26))) : qak Tryz.prog R ((execOp ev o).run Tryz.prog w):=by
 unfold execOp
 rw [ho]
 go_simp
 exact h (pcL (fun _=>0) (fun _=>0)) (qa1 _ _)
theorem al_S (ho : o.op = .alloc 35) (h : ∀ cs : List Value,cs.length = 64→R (.pointer (some ⟨w.heap.size,0,none⟩)) (w.alloc (.cells cs.toArray 35))) : qak Tryz.prog R ((execOp ev o).run Tryz.prog w):=by
 unfold execOp
 rw [ho]
 go_simp
 exact h (pcL (fun _=>0) (fun _=>0)) (qa1 _ _)
theorem st_H {cs : List Value} (hR : Row w n 26 cs) (hc : cs.length = 64) (hl : l.length = 64) (p q : Operand) (ho : o.op = .store 26 p q) (hx : ev p = .pointer (some ⟨n,0,none⟩)) (hy : ev q = h64 l)
  (h : ∀ w' cs',Row w' n 26 cs'→(.agg (List.toArray cs') : Value) = h64 l→Keep [n] w w'→R undef w') : qak Tryz.prog R ((execOp ev o).run Tryz.prog w) :=
 qbx _ p q ho n (l.map bv).toArray hx hy hR (by simp only [List.size_toArray,List.length_map,hl];exact qi1) (by simp [hl,hc]) (Array.all_eq_true_iff_forall_mem.2 (fun v hv=>qef l v (by simpa using hv))) fun w' hr hk=>h w' _ hr rfl hk
theorem st_S {cs : List Value} (hR : Row w n 35 cs) (hl : cs.length = 64) (p q : Operand) (ho : o.op = .store 35 p q) (hx : ev p = .pointer (some ⟨n,0,none⟩)) (hy : ev q = .agg (pc f g))
  (h : ∀ w' cs',Row w' n 35 cs'→(.agg (List.toArray cs') : Value) = .agg (pc f g)→Keep [n] w w'→R undef w') : qak Tryz.prog R ((execOp ev o).run Tryz.prog w) :=
 qbx _ p q ho n (pc f g) hx hy hR (by rw [qb4];exact iSe) (by rw [qb4];exact hl) (qkk f g) fun w' hr hk=>h w' _ hr (by rw [Array.toArray_toList]) hk
theorem ld_Hk (k : Nat) (hR : RV w n 26 (fun u=>u = h64 l)) (hl : l.length = 64) (hk : k + 32 ≤ 64) (p : Operand) (ho : o.op = .load 22 p) (hx : ev p = .pointer (some ⟨n,k,none⟩)) (h : ∀ u,u = .agg (qab (lf l k))→R u w) : qak Tryz.prog R ((execOp ev o).run Tryz.prog w):=by
 obtain ⟨cs,h1,h2⟩:=hR
 rw [hL_of h2] at h1
 exact qa2 _ p ho n k hx h1 (qab (lf l k)).toList (by simp only [Array.length_toList,qam];exact qlc l k (by omega)) _ u22 rfl (by simpa using i22) (h _ (by rw [Array.toArray_toList]))
theorem qf4 {ad : Addr} (k : Nat) (hr : Rd w (some ad) ((l.map bv).drop k)) (hl : k + 32 ≤ l.length) (p : Operand) (ho : o.op = .load 22 p) (hx : ev p = .pointer (some ad)) (h : ∀ u,u = .agg (qab (lf l k))→R u w) : qak Tryz.prog R ((execOp ev o).run Tryz.prog w):=by
 have h2:=hr.take_ 32
 rw [qlc l k hl] at h2
 exact qk0 _ p ho ad hx _ h2 _ u22 rfl (by simpa using i22) (h _ (by rw [Array.toArray_toList]))
theorem bd_S (p q : Operand) (ho : o.op = .build 35 #[(0,p),(1,q)]) (hp : ev p = .agg (qab f)) (hq : ev q = .agg (qab g)) (h : ∀ u,u = .agg (pc f g)→R u w) : qak Tryz.prog R ((execOp ev o).run Tryz.prog w):=by
 unfold execOp
 simp only [ho]
 simp only [List.map_toArray,List.map_cons,List.map_nil,Array.map_map,Function.comp_def,hp,hq]
 go_simp
 refine h _ ?_
 rw [qip]
theorem sl32 {off : Nat} (p : Operand) (ho : o.op = .slice 22 p none none none) (hx : ev p = .pointer (some ⟨n,off,none⟩)) (h : R (.slice (some ⟨n,off,none⟩) 32 32) w) : qak Tryz.prog R ((execOp ev o).run Tryz.prog w):=by
 unfold execOp
 simp only [ho,hx,Option.map_none]
 go_simp
 exact h
theorem sl64 (p : Operand) (ho : o.op = .slice 26 p none none none) (hx : ev p = .pointer (some ⟨n,0,none⟩)) (h : R (.slice (some ⟨n,0,none⟩) 64 64) w) : qak Tryz.prog R ((execOp ev o).run Tryz.prog w):=by
 unfold execOp
 simp only [ho,hx,Option.map_none]
 go_simp
 exact h
theorem sl64lo (p : Operand) (ho : o.op = .slice 26 p (some (.const (.int .i64 32))) none none) (hc : ev (.const (.int .i64 32)) = .int .i64 32) (hx : ev p = .pointer (some ⟨n,0,none⟩)) (h : R (.slice (some ⟨n,32,none⟩) 32 32) w) : qak Tryz.prog R ((execOp ev o).run Tryz.prog w):=by
 unfold execOp
 simp only [ho,hx,Option.map_none,Option.map_some,hc]
 go_simp
 exact h
theorem sl64hi (p : Operand) (ho : o.op = .slice 26 p none (some (.const (.int .i64 32))) none) (hc : ev (.const (.int .i64 32)) = .int .i64 32) (hx : ev p = .pointer (some ⟨n,0,none⟩)) (h : R (.slice (some ⟨n,0,none⟩) 32 64) w) : qak Tryz.prog R ((execOp ev o).run Tryz.prog w):=by
 unfold execOp
 simp only [ho,hx,Option.map_none,Option.map_some,hc]
 go_simp
 exact h
theorem ld_Sb (k : Nat) (hk : k < 32) (hR : RV w n 35 (fun u=>u = .agg (pc f g))) (p : Operand) (ho : o.op = .load 5 p) (hx : ev p = .pointer (some ⟨n,k * 1,none⟩)) (h : ∀ u,u = .int .u8 (n8 (f k))→R u w) : qak Tryz.prog R ((execOp ev o).run Tryz.prog w):=by
 obtain ⟨cs,h1,h2⟩:=hR
 rw [qbz h2] at h1
 refine qdu _ p ho n (k * 1) hx h1 (.int .u8 (n8 (f k))) ?_ _ u5_ rfl (h _ rfl)
 rw [Nat.mul_one]
 unfold pcL
 rw [List.getElem?_append_left (by simpa using hk),Array.getElem?_toList]
 exact qbp f hk
theorem pcL_set (k : Nat) (hk : k < 32) (v : UInt8) : (pcL f g).take k ++ #[Value.int .u8 (n8 v)].toList ++ (pcL f g).drop (k + 1) = pcL (updb f k v) g:=by
 have h1 : pcL (updb f k v) g = (pcL f g).set k (.int .u8 (n8 v)):=by
  unfold pcL
  rw [← qem,Array.toList_setIfInBounds,List.set_append,if_pos (by simpa using hk)]
 rw [h1,List.set_eq_take_append_cons_drop,if_pos (by rw [qa1];omega)]
 simp
theorem qie (ty : TypeId) (x y : Operand) (ho : o.op = .store ty x y) (k : Nat) (v : Value) (hx : ev x = .pointer (some ⟨n,k,none⟩)) (hy : ev y = v) {T : TypeId} {cs : List Value} (hR : Row w n T cs) (hk : k < cs.length)
  (hi : (Tryz.prog.info? ty).map (·.size) = some 1) (h1 : v.oneCell' = true)
  (h : ∀ w',Row w' n T (cs.take k ++ v :: cs.drop (k + 1))→Keep [n] w w'→R undef w') : qak Tryz.prog R ((execOp ev o).run Tryz.prog w):=by
 have hst:=run_storeCells_at (P:=Tryz.prog) n k T [v] 0 cs.toArray w hR (by simp;omega) (fun u hu=>by rw [List.mem_singleton.1 hu];exact h1)
 have hc : v.cells = #[v]:=by cases v <;> first | rfl | cases h1
 have hrun : (storeVar ty ⟨n,k,none⟩ v).run Tryz.prog w = .ok () (w.setRow n (cs.take k ++ v :: cs.drop (k + 1)).toArray):=by
  cases hq : Tryz.prog.info? ty with
  | none=>simp [hq] at hi
  | some i =>
   have hs : i.size = 1:=by simpa [hq] using hi
   simp only [Nat.add_zero,List.length_singleton] at hst
   simp [storeVar,Go.sizeOf,typeInfo,hq,hc,hs,hst]
 unfold execOp
 simp only [ho,hx,hy,Instr.storeAt,Instr.sureAddr,Sem.run_bind,Sem.run_pure,Result.andThen_ok,hrun]
 refine h _ ?_ ?_
 ·exact setRow_heap w n _ _ T (0,0) hR
 ·refine ⟨rfl,rfl,rfl,by simp [World.setRow],fun k _ hk=>?_⟩
  exact setRow_other w n k _ (by simpa using hk)
theorem st_Sb {cs : List Value} (k : Nat) (hk : k < 32) (v : UInt8) (hR : Row w n 35 cs) (hc : (.agg cs.toArray : Value) = .agg (pc f g)) (p q : Operand) (ho : o.op = .store 5 p q) (hx : ev p = .pointer (some ⟨n,k * 1,none⟩)) (hy : ev q = .int .u8 (n8 v))
  (h : ∀ w' cs',Row w' n 35 cs'→(.agg (List.toArray cs') : Value) = .agg (pc (updb f k v) g)→Keep [n] w w'→R undef w') : qak Tryz.prog R ((execOp ev o).run Tryz.prog w):=by
 have hcs:=qbz hc
 refine qie _ p q ho (k * 1) _ hx hy hR (by rw [hcs,qa1];omega) i5_ rfl fun w' hr hk'=>h w' _ hr ?_ hk'
 have h2:=pcL_set (f:=f) (g:=g) k hk v
 rw [Nat.mul_one,hcs]
 simp only [List.append_assoc] at h2
 exact congrArg (fun z : List Value=>(Value.agg z.toArray)) h2
theorem g_and (b : UInt8) (c : Int) (p q : Operand) (t : TypeId) (ho : o.op = .binOp .and 5 p q t) (hx : ev p = .int .u8 (n8 b)) (hy : ev q = .int .u8 c) (h : R (.int .u8 (n8 (b &&& u8 c))) w) : qak Tryz.prog R ((execOp ev o).run Tryz.prog w):=by
 unfold execOp
 simp only [ho,hx,hy]
 go_simp
 exact h
theorem g_or (b : UInt8) (c : Int) (p q : Operand) (t : TypeId) (ho : o.op = .binOp .or 5 p q t) (hx : ev p = .int .u8 (n8 b)) (hy : ev q = .int .u8 c) (h : R (.int .u8 (n8 (b ||| u8 c))) w) : qak Tryz.prog R ((execOp ev o).run Tryz.prog w):=by
 unfold execOp
 simp only [ho,hx,hy]
 go_simp
 exact h
theorem pc_congr {f' : Nat→UInt8} (h : ∀ i,i < 32→f i = f' i) : pc f g = pc f' g:=by rw [qip,qip,qbm h]
theorem gSum : GC 41 := gcOf Tryz.func41 (by kernel_rfl) (by kernel_rfl)
theorem gDig : GC 16 := gcOf Tryz.func16 (by kernel_rfl) (by kernel_rfl)
theorem gsBase : GC 17 := gcOf Tryz.func17 (by kernel_rfl) (by kernel_rfl)
theorem gKey : GC 15 := gcOf Tryz.func15 (by kernel_rfl) (by kernel_rfl)
theorem gsOf : GC 14 := gcOf Tryz.func14 (by kernel_rfl) (by kernel_rfl)
theorem gLow : GC 26 := gcOf Tryz.func26 (by kernel_rfl) (by kernel_rfl)
theorem gChk : GC 27 := gcOf Tryz.func27 (by kernel_rfl) (by kernel_rfl)
theorem gEqu : GC 28 := gcOf Tryz.func28 (by kernel_rfl) (by kernel_rfl)
theorem gSca : GC 42 := gcOf Tryz.func42 (by kernel_rfl) (by kernel_rfl)
theorem gPub : GC 6 := gcOf Tryz.func6 (by kernel_rfl) (by kernel_rfl)
theorem gSig : GC 7 := gcOf Tryz.func7 (by kernel_rfl) (by kernel_rfl)
theorem gVer : GC 11 := gcOf Tryz.func11 (by kernel_rfl) (by kernel_rfl)
theorem gSeed : GC 13 := gcOf Tryz.func13 (by kernel_rfl) (by kernel_rfl)
theorem gShown : GC 5 := gcOf Tryz.func5 (by kernel_rfl) (by kernel_rfl)
end
theorem qpw {fn : Func} {p : Tmp} (h : fn.results = #[.cell p 35]) (tmps : Array Value) {W : World} {n : Nat} {f g : Nat→UInt8} (hR : RV W n 35 (fun u=>u = .agg (pc f g)))
  (hp : tmps.getD p undef = .pointer (some ⟨n,0,none⟩)) : (results fn tmps).run Tryz.prog W = .ok (.agg (pc f g)) W:=by
 obtain ⟨cs,h1,h2⟩:=hR
 have e:=qbz h2
 subst e
 obtain ⟨fs,hu⟩:=uSe
 rw [← h2]
 exact results_cell_row (P:=Tryz.prog) h tmps W n _ _ (0,0) _ hp h1 hu rfl (by simp only [List.size_toArray,qa1];exact iSe)
theorem qpx {fn : Func} {p : Tmp} (h : fn.results = #[.cell p 26]) (tmps : Array Value) {W : World} {n : Nat} {l : List UInt8} (hl : l.length = 64) (hR : RV W n 26 (fun u=>u = h64 l))
  (hp : tmps.getD p undef = .pointer (some ⟨n,0,none⟩)) : (results fn tmps).run Tryz.prog W = .ok (h64 l) W:=by
 obtain ⟨cs,h1,h2⟩:=hR
 have e:=hL_of h2
 subst e
 exact results_cell_row (P:=Tryz.prog) h tmps W n _ _ (0,0) _ hp h1 u64a rfl (by simp only [List.size_toArray,List.length_map,hl];exact qi1)
theorem rd_B {w : World} {n : Nat} {T : TypeId} {f : Nat→UInt8} (h : RV w n T (fun u=>u = .agg (qab f))) : Rd w (some ⟨n,0,none⟩) ((qao f).map bv):=by
 obtain ⟨cs,h1,h2⟩:=h
 rw [qgb h2,qhd] at h1
 exact Rd.row h1
theorem rd_H {w : World} {n : Nat} {T : TypeId} {l : List UInt8} (h : RV w n T (fun u=>u = h64 l)) : Rd w (some ⟨n,0,none⟩) (l.map bv):=by
 obtain ⟨cs,h1,h2⟩:=h
 rw [hL_of h2] at h1
 exact Rd.row h1
theorem rd_Sm {w : World} {n : Nat} {T : TypeId} {f g : Nat→UInt8} (h : RV w n T (fun u=>u = .agg (pc f g))) : Rd w (some ⟨n,32,none⟩) ((qao g).map bv):=by
 obtain ⟨cs,h1,h2⟩:=h
 rw [qbz h2] at h1
 have:=Rd.at_off (k:=32) h1
 have e : (pcL f g).drop 32 = (qao g).map bv:=by
  unfold pcL
  rw [List.drop_append_of_le_length (by simp),List.drop_of_length_le (by simp),List.nil_append,qhd]
 rwa [e] at this
end Go.Proofs.YtgeihelkkhjjaaaGreatDoor
end
section
namespace Go.Cv
open Go Go.RowKit
theorem Row.rd {w : World} {n : Nat} {T : TypeId} {cs : List Value} (h : Row w n T cs) (k : Nat) : Rd w (some ⟨n,k,none⟩) (cs.drop k):=fun j v hv=>by
 rw [List.getElem?_drop] at hv
 have hk : k + j < cs.length:=by
  rcases Nat.lt_or_ge (k + j) cs.length with h0 | h0
  ·exact h0
  ·rw [List.getElem?_eq_none h0] at hv;cases hv
 refine ⟨⟨n,k,none⟩,rfl,?_⟩
 have e : (⟨n,k,none⟩ : Addr).add j = ⟨n,k + j,none⟩:=by unfold Addr.add;split <;> simp_all
 rw [e,h.cell hk]
 rw [List.getElem?_eq_getElem hk] at hv
 exact hv
theorem Rd.tk {w : World} {A : Option Addr} {cs : List Value} (h : Rd w A cs) (k : Nat) : Rd w A (cs.take k):=fun j v hv=>by
 rw [List.getElem?_take] at hv
 split at hv
 ·exact h j v hv
 ·cases hv
theorem own_rw {w : World} {base : Nat} {e : TypeId} {v : Value} {n : Nat} {xs : List Value} (h : w.ownsRow base e 1 v n xs) (hn : 0 < n) : ∃ g c cs,v = .slice (some ⟨g,0,none⟩) n c∧base ≤ g∧n ≤ c∧Row w g e cs∧cs.take n = xs∧cs.length = c:=by
 rcases h.2 with ⟨_,h0⟩ | ⟨g,cap,cur,hv,hg,hh,hnc,hcm,hs,hx⟩
 ·omega
 ·refine ⟨g,cap,cur.toList,hv,hg,hnc,by unfold Row;rw [Array.toArray_toList];exact hh,by simpa using hx,by simpa using hs⟩
end Go.Cv
namespace Go.Proofs.YtgeihelkkhjjaaaGreatDoor
open Go.RowKit Go.Cv Go.Cv.Pr Go.Cv.Grp Go.Cv.Hash
section
variable {P : Program}
theorem qnx {w : World} {ops : Array Oper} {rest : List Oper} {o : Oper} {a : Act} {Q : Exit→Act→World→Prop} (hgd : o.guard = none) (x y : Operand) (ho : o.op = .store 22 x y) (n : Nat) (f : Nat→UInt8) (hx : a.eval x = .pointer (some ⟨n,0,none⟩)) (hy : a.eval y = .agg (qab f)) {cs : List Value} (hR : Row w n 22 cs) (hc : cs.length = 32)
  (h : ∀ w',RV w' n 22 (fun u=>u = .agg (qab f))→Keep [n] w w'→wpList Tryz.prog ops Q rest (a.put o.dst undef) w') : wpList Tryz.prog ops Q (o :: rest) a w :=
 wpList_store_row hgd _ x y ho n _ hx hy _ _ hR (by rw [qam];exact i22) (by simp [hc]) (qcu f) (h _ ⟨(qab f).toList,by
  unfold Row
  rw [Array.toArray_toList]
  exact setRow_heap w n _ _ _ (0,0) hR,by rw [Array.toArray_toList]⟩ ⟨rfl,rfl,rfl,by simp [World.setRow],fun k _ hk=>setRow_other w n k _ (by simpa using hk)⟩)
end
theorem qpv (A : Option Addr) (n c : Nat) (l : List UInt8) (B : Option Addr) (m d : Nat) (k : List UInt8) (C : Option Addr) (p e : Nat) (j : List UInt8) (w : World) (hl : l.length = n) (hr : Rd w A (l.map bv)) (hk : k.length = m) (hr2 : Rd w B (k.map bv)) (hj : j.length = p) (hr3 : Rd w C (j.map bv)) (bnd : n + m + p ≤ 140737488355328) :
  Calls Tryz.prog 23 #[.slice A n c,.slice B m d,.slice C p e] w fun e w'=>∃ D q,e = .returned (.slice D (n + m + p) q)∧n + m + p ≤ q∧Rd w' D ((l ++ k ++ j).map bv)∧Ext w w':=by
 go_enter Tryz.func23,Tryz.ntmps23
 go_wp2_with (first
  | (at_builtin;refine qc8 rfl (.tmp 8) (.tmp 9) 23 5 rfl qbj rfl A n c l rfl hl hr (by omega) ?_;intro A1 c1 w1 ho1 hc1 hm1 hr1 hx1;replace hr2:=hr2.ext hx1;have hs1:=hx1.size)
  | (at_builtin;refine qbh rfl (.tmp 11) (.tmp 12) 23 5 rfl qbj w.heap.size _ n l rfl ho1 B m d k rfl hk hr2 (by omega) hs1 ?_;intro A2 c2 w2 ho2 hc2 hm2 hr4 hx2;have hx3 : Ext w w2:=hx2 w hx1 (Nat.le_refl _);replace hr3:=hr3.ext hx3;have hs2:=hx3.size)
  | (at_builtin;refine qbh rfl (.tmp 14) (.tmp 15) 23 5 rfl qbj w.heap.size _ (n + m) (l ++ k) rfl ho2 C p e j rfl hj hr3 (by omega) hs2 ?_;intro A3 c3 w3 ho3 hc3 hm3 hr5 hx4))
 go_ret
 exact ⟨A3,c3,rfl,hc3,hr5,hx4 w hx3 (Nat.le_refl _)⟩
theorem qlv (A : Option Addr) (c : Nat) (l : List UInt8) (w : World) (hl : l.length = 64) (hr : Rd w A (l.map bv)) :
  Calls Tryz.prog 21 #[.slice A 64 c] w fun e w'=>e = .returned (.agg (qab (nb (bsum (fun j=>l.getD j 0) 64 % ordN))))∧Ext w w':=by
 have hof:=fun w' (hx : Ext w w')=>qko A 64 c l w' hl (hr.ext hx) (by decide)
 have hlb : bsum (Dig.lb l) 64 = bsum (fun j=>l.getD j 0) 64:=rfl
 obtain ⟨D,hD⟩ : ∃ D,D = bsum (fun j=>l.getD j 0) 64 % ordN:=⟨_,rfl⟩
 rw [← hD]
 have hDx:=Lib.hid hD
 clear hD hl hr
 go_enter Tryz.func21,Tryz.ntmps21
 go_upto_region 1 with fail
 obtain ⟨r,hr0⟩ : ∃ r,r = w.heap.size:=⟨_,rfl⟩
 obtain ⟨W0,hW0⟩ : ∃ W0,W0 = w.alloc (.cells (qab fun _=>0) 22):=⟨_,rfl⟩
 have hx0 : Ext w W0:=by rw [hW0];exact qaa _ _
 have hR : Row W0 r 22 (qab fun _=>0).toList:=by
  rw [hW0,hr0]
  have:=Row.alloc w (qab fun _=>0).toList 22
  rwa [Array.toArray_toList] at this
 have hrw : w.heap.size ≤ r:=by omega
 rw [← hW0,← hr0]
 clear hW0 hr0
 go_wp2_with (first
  | (go_at_call 31;(with_reducible refine (hof _ hx0).mono ?_);rintro e w1 ⟨v1,rfl,hv1,hx1⟩;rw [hlb] at hv1;replace hv1:=hv1.mono (M:=1000) (by decide))
  | (go_at_call 51;(with_reducible refine (qps _ _ _ ordN rfl hv1).mono ?_);rintro e w2 ⟨v2,rfl,hv2,hx2⟩;rw [← hDx.out] at hv2)
  | (go_at_call 50;(with_reducible refine (qk9 _ _ _ hv2).mono ?_);rintro e w3 ⟨rfl,hx3⟩;have hx4:=(hx1.trans hx2).trans hx3;have hR3:=hR.ext hx4;clear hv1 hv2 hof)
  | (refine qnx rfl (.tmp 2) (.tmp 6) rfl r (nb D) rfl rfl hR3 (by simp) ?_;intro w5 hR5 hk5))
 refine bodyPost_ret (qcs rfl _ hR5 rfl) rfl ⟨rfl,(hx0.trans hx4).keep1 hk5 hrw⟩
end Go.Proofs.YtgeihelkkhjjaaaGreatDoor
end
