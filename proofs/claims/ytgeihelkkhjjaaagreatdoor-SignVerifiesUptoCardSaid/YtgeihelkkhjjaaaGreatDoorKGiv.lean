/-
  Texts of the lemmas below the claim, put together: RefU RefV Inn Err Giv.
-/
import Derived.Test.YtgeihelkkhjjaaaGreatDoorKDec
import Derived.Test.YtgeihelkkhjjaaaGreatDoorKEC
set_option linter.unusedSimpArgs false
set_option linter.unusedVariables false
set_option maxRecDepth 20000
set_option maxHeartbeats 8000000
section
namespace Go.Cv
open Go.RowKit Go.Cv.Pr Go.Cv.Grp
theorem qoc {n : Nat} [NeZero n] (a b i y : Fin n) (h1 : b * i = 1) (h2 : y * b = a) : a * i = y:=by grind
theorem sq_ring {n : Nat} [NeZero n] (x y d i : Fin n) (h1 : (d * (y * y) + 1) * i = 1) (h : y * y - x * x = 1 + d * (x * x) * (y * y)) : (y * y - 1) * i = x * x:=by grind
theorem base_y7 : tf 4 * fiv (tf 5) = B7.y:=by
 refine qoc _ (tf 5) _ _ (qe6 _ (qpa.2 (by decide))) ?_
 have h : Eqp (byN * 5) 4:=by decide +kernel
 have h2:=h.tf
 rw [qda] at h2
 exact h2
theorem base_den : C7.d * (B7.y * B7.y) + 1 ≠ 0:=by
 have h : ¬ Eqp (dN * (byN * byN) + 1) 0:=by decide +kernel
 intro h2
 refine h (qhf.1 ?_)
 rw [qdo,qda,qda,qgj,qcw]
 exact h2
theorem base_x7 : (B7.y * B7.y - 1) * fiv (C7.d * (B7.y * B7.y) + 1) = B7.x * B7.x:=sq_ring _ _ _ _ (qe6 _ base_den) B7.on
theorem qrx : B7.x.val % 2 = 0:=by decide +kernel
end Go.Cv
namespace Go.Proofs.YtgeihelkkhjjaaaGreatDoor
open Go.RowKit Go.Cv Go.Cv.Pr Go.Cv.Grp Go.Cv.Dig
theorem lit_4 (w : World) (t : TypeId) : NF (w.alloc (.cells #[.int .i64 4] t)) (.slice (some ⟨w.heap.size,0,none⟩) 1 1) (tf 4):=NF.lit 4 (by decide) (by decide) w t
theorem lit_5 (w : World) (t : TypeId) : NF (w.alloc (.cells #[.int .i64 5] t)) (.slice (some ⟨w.heap.size,0,none⟩) 1 1) (tf 5):=NF.lit 5 (by decide) (by decide) w t
theorem nbx {w : World} {v1 : Value} (h1 : NF w v1 B7.y) :
  Calls Tryz.prog 60 #[v1] w fun e w'=>∃ v,e = .returned (.tuple #[v,.bool true])∧NF w' v B7.x∧Ext w w':=by
 refine (nxof h1).mono ?_
 rintro e w' ⟨v,rfl,h2,hx⟩
 rw [base_x7] at h2 ⊢
 rw [okF_sq rfl] at h2 ⊢
 have h3:=h2 rfl
 rw [qpq rfl qrx] at h3
 exact ⟨v,rfl,h3,hx⟩
theorem rbase (w : World) :
  Calls Tryz.prog 36 #[] w fun e w'=>e = .returned (.agg (pc (fb B7.x) (fb B7.y)))∧Ext w w':=by
 have l4:=lit_4
 have l5:=lit_5
 have hy:=base_y7
 have hX:=@nbx
 generalize B7.y = y at *
 generalize B7.x = x at *
 generalize tf 4 = a at *
 generalize tf 5 = b at *
 replace hy:=Lib.hid hy
 go_enter Tryz.func36,Tryz.ntmps36
 go_upto_region 1 with fail
 obtain ⟨W0,hW0⟩ : ∃ W0,W0 = w.alloc (.cells (pc (fun _=>0) (fun _=>0)) 49):=⟨_,rfl⟩
 obtain ⟨n,hn⟩ : ∃ n,n = w.heap.size:=⟨_,rfl⟩
 rw [← hW0,← hn]
 have hR : rdP W0 n (fun _=>0) (fun _=>0):=by rw [hW0,hn];exact rdP.new _ _ _ _
 have hx0 : Ext w W0:=by rw [hW0];exact qaa _ _
 have hnw : w.heap.size ≤ n:=by omega
 clear hW0 hn
 have l5' : ∀ (w : World) (o : Obj) (t : TypeId),NF ((w.alloc o).alloc (.cells #[.int .i64 5] t)) (.slice (some ⟨w.heap.size + 1,0,none⟩) 1 1) b:=fun w o t=>by
  have h:=l5 (w.alloc o) t
  have e : (w.alloc o).heap.size = w.heap.size + 1:=Array.size_push _
  rwa [e] at h
 go_wp2_with (first
  | (go_at_call 63;with_reducible refine (qqb ((l4 W0 _).ext (qaa _ _)) (l5' W0 _ _)).mono ?_;rintro e w1 ⟨v1,rfl,hv1,hx1⟩;rw [hy.out] at hv1)
  | (go_at_call 60;with_reducible refine (hX hv1).mono ?_;rintro e w2 ⟨v2,rfl,hv2,hx2⟩)
  | (go_at_call 50;with_reducible refine (qey hv2).mono ?_;rintro e w3 ⟨rfl,hx3⟩)
  | (go_at_call 50;with_reducible refine (qey (hv1.ext (hx2.trans hx3))).mono ?_;rintro e w4 ⟨rfl,hx4⟩;have hxx:=(qaa W0 _).trans ((qaa _ _).trans (hx1.trans (hx2.trans (hx3.trans hx4))));have hR4:=rdP.ext hxx hR;have o4:=rdP_opt hR4))
 obtain ⟨t,hc,h64⟩:=qfg hR4
 obtain ⟨fs,hu⟩:=uPt
 exact bodyPost_ret (results_cell_row (p:=0) (ty:=49) rfl _ _ n _ _ (0,0) _ rfl (setRow_heap w4 n _ _ _ (0,0) hc) hu rfl (by rw [qb4];exact iPt)) rfl ⟨rfl,Ext.keep_ (ns:=[n]) (hx0.trans hxx) ⟨rfl,rfl,rfl,by simp [World.setRow],fun k _ hk=>setRow_other w4 n k _ (by simpa using hk)⟩ (by simpa using hnw)⟩
end Go.Proofs.YtgeihelkkhjjaaaGreatDoor
end
section
namespace Go.Cv.Grp
theorem rp_x {n : Nat} [NeZero n] (d x y u v Z W a : Fin n) (h : a * (1 + d * (x * u) * (y * v)) = x * v + u * y) :
  ((Z * W) * ((Z * W) * (Z * W) - d * ((x * Z) * (u * W) * ((y * Z) * (v * W))))) * ((x * Z) * (v * W) + (u * W) * (y * Z)) =
   a * (((Z * W) * (Z * W) - d * ((x * Z) * (u * W) * ((y * Z) * (v * W)))) * ((Z * W) * (Z * W) + d * ((x * Z) * (u * W) * ((y * Z) * (v * W))))):=by
 have e : (x * Z) * (v * W) + (u * W) * (y * Z) = (Z * W) * (x * v + u * y):=by clear h;grind
 rw [e,← h]
 clear h e
 grind
theorem rp_y {n : Nat} [NeZero n] (d x y u v Z W a : Fin n) (h : a * (1 - d * (x * u) * (y * v)) = y * v + x * u) :
  ((Z * W) * ((Z * W) * (Z * W) + d * ((x * Z) * (u * W) * ((y * Z) * (v * W))))) * ((y * Z) * (v * W) + (x * Z) * (u * W)) =
   a * (((Z * W) * (Z * W) - d * ((x * Z) * (u * W) * ((y * Z) * (v * W)))) * ((Z * W) * (Z * W) + d * ((x * Z) * (u * W) * ((y * Z) * (v * W))))):=by
 have e : (y * Z) * (v * W) + (x * Z) * (u * W) = (Z * W) * (y * v + x * u):=by clear h;grind
 rw [e,← h]
 clear h e
 grind
theorem rp_f {n : Nat} [NeZero n] (d x y u v Z W : Fin n) : (Z * W) * (Z * W) - d * ((x * Z) * (u * W) * ((y * Z) * (v * W))) = (Z * W) * (Z * W) * (1 - d * (x * u) * (y * v)):=by grind
theorem rp_g {n : Nat} [NeZero n] (d x y u v Z W : Fin n) : (Z * W) * (Z * W) + d * ((x * Z) * (u * W) * ((y * Z) * (v * W))) = (Z * W) * (Z * W) * (1 + d * (x * u) * (y * v)):=by grind
end Go.Cv.Grp
namespace Go.Cv
open Go.RowKit Go.Cv.Pr Go.Cv.Grp
structure R3 (X Y Z : F7) (P : P7) : Prop where
 x : X = P.x * Z
 y : Y = P.y * Z
 z : Z ≠ 0
theorem R3.add {X Y Z U V W : F7} {P Q : P7} (h : R3 X Y Z P) (k : R3 U V W Q) :
  R3 (((Z * W) * ((Z * W) * (Z * W) - C7.d * (X * U * (Y * V)))) * (X * V + U * Y)) (((Z * W) * ((Z * W) * (Z * W) + C7.d * (X * U * (Y * V)))) * (Y * V + X * U))
   (((Z * W) * (Z * W) - C7.d * (X * U * (Y * V))) * ((Z * W) * (Z * W) + C7.d * (X * U * (Y * V)))) (P.add Q):=by
 obtain ⟨rfl,rfl,hz⟩:=h
 obtain ⟨rfl,rfl,hw⟩:=k
 have h1:=C7.ax_is P.on Q.on
 have h2:=C7.ay_is P.on Q.on
 have n1:=C7.den1 P.on Q.on
 have n2:=C7.den2 P.on Q.on
 refine ⟨rp_x _ _ _ _ _ _ _ _ h1,rp_y _ _ _ _ _ _ _ _ h2,?_⟩
 rw [rp_f,rp_g]
 have hzw:=C7.mul_ne hz hw
 exact C7.mul_ne (C7.mul_ne (C7.mul_ne hzw hzw) n2) (C7.mul_ne (C7.mul_ne hzw hzw) n1)
theorem R3.of (P : P7) : R3 P.x P.y 1 P:=⟨by grind,by grind,C7.one⟩
theorem R3.zero : R3 0 1 1 (Pt.zero C7):=R3.of (Pt.zero C7)
theorem qm7 {n : Nat} [NeZero n] (x Z i : Fin n) (h : Z * i = 1) : x * Z * i = x:=by grind
theorem R3.out {X Y Z : F7} {P : P7} (h : R3 X Y Z P) : X * fiv Z = P.x∧Y * fiv Z = P.y:=by
 have h1:=qe6 Z h.z
 rw [h.x,h.y]
 exact ⟨qm7 _ _ _ h1,qm7 _ _ _ h1⟩
end Go.Cv
namespace Go.Proofs.YtgeihelkkhjjaaaGreatDoor
open Go.RowKit Go.Cv Go.Cv.Pr Go.Cv.Grp Go.Cv.Dig
def NP (w : World) (v : Value) (P : P7) : Prop:=∃ a b c X Y Z,v = .agg #[a,b,c]∧NF w a X∧NF w b Y∧NF w c Z∧R3 X Y Z P
theorem NP.ext {w w' : World} {v : Value} {P : P7} (h : NP w v P) (hx : Ext w w') : NP w' v P:=by
 obtain ⟨a,b,c,X,Y,Z,rfl,h1,h2,h3,h4⟩:=h
 exact ⟨a,b,c,X,Y,Z,rfl,h1.ext hx,h2.ext hx,h3.ext hx,h4⟩
def C3 (w : World) (n : Nat) (a b c : Value) : Prop:=w.cell? ⟨n,0,none⟩ = some a∧w.cell? ⟨n,1,none⟩ = some b∧w.cell? ⟨n,2,none⟩ = some c
theorem C3.ext {w w' : World} {n : Nat} {a b c : Value} (h : C3 w n a b c) (hx : Ext w w') : C3 w' n a b c:=⟨hx.cell h.1,hx.cell h.2.1,hx.cell h.2.2⟩
theorem C3.new (w : World) (a b c : Value) (t : TypeId) : C3 (w.alloc (.cells #[a,b,c] t)) w.heap.size a b c:=by
 have h:=Row.alloc w [a,b,c] t
 exact ⟨h.cell (i:=0) (by simp),h.cell (i:=1) (by simp),h.cell (i:=2) (by simp)⟩
end Go.Proofs.YtgeihelkkhjjaaaGreatDoor
end
section
namespace Go.Cv
open Go.RowKit
theorem calls_eq {P : Program} {f : FuncId} {args args' : Array Value} {w : World} {Q : Ending→World→Prop} (h : Calls P f args w Q) (e : args' = args) : Calls P f args' w Q:=e ▸ h
def noI (v : Value) : Bool:=match v with | .int .i64 _=>false | _=>true
def NoI (w : World) (n : Nat) : Prop:=∃ T cs,Row w n T cs∧∀ c ∈ cs,noI c = true
theorem NoI.of {w : World} {n : Nat} {T : TypeId} {cs : List Value} (h : Row w n T cs) (hn : ∀ c ∈ cs,noI c = true) : NoI w n:=⟨T,cs,h,hn⟩
theorem noI_cell {w : World} {p : Addr} {v : Value} (h : NoI w p.block) (hc : w.cell? p = some v) : noI v = true:=by
 obtain ⟨T,cs,hR,hn⟩:=h
 unfold World.cell? at hc
 unfold Row at hR
 rw [hR] at hc
 simp only at hc
 split at hc
 ·cases hc
 ·exact hn v (by
   have:=List.mem_of_getElem? (l:=cs) (i:=p.off) (by simpa using hc)
   exact this)
theorem noI_pc (f g : Nat→UInt8) : ∀ c ∈ pcL f g,noI c = true:=by
 intro c hc
 unfold pcL at hc
 rcases List.mem_append.1 hc with h | h
 ·rw [qbl] at h
  simp at h
  obtain ⟨x,-,rfl⟩:=h
  rfl
 ·rw [qbl] at h
  simp at h
  obtain ⟨x,-,rfl⟩:=h
  rfl
theorem noI_b (f : Nat→UInt8) : ∀ c ∈ (qab f).toList,noI c = true:=by
 intro c hc
 rw [qbl] at hc
 simp at hc
 obtain ⟨x,-,rfl⟩:=hc
 rfl
theorem RV.noP {w : World} {n : Nat} {T : TypeId} {f g : Nat→UInt8} (h : RV w n T (fun u=>u = .agg (pc f g))) : NoI w n:=by
 obtain ⟨cs,h1,h2⟩:=h
 rw [qbz h2] at h1
 exact NoI.of h1 (noI_pc f g)
theorem RV.noB {w : World} {n : Nat} {T : TypeId} {f : Nat→UInt8} (h : RV w n T (fun u=>u = .agg (qab f))) : NoI w n:=by
 obtain ⟨cs,h1,h2⟩:=h
 rw [qgb h2] at h1
 exact NoI.of h1 (noI_b f)
end Go.Cv
namespace Go.Proofs.YtgeihelkkhjjaaaGreatDoor
open Go.RowKit Go.Cv Go.Cv.Pr Go.Cv.Grp Go.Cv.Dig
theorem NF.slice {w : World} {v : Value} {x : F7} (h : NF w v x) : noI v = true:=by
 obtain ⟨A,n,c,l,rfl,_⟩:=h
 rfl
theorem NF.keep {bs : List Nat} {w w' : World} {v : Value} {x : F7} (h : NF w v x) (hk : Keep bs w w') (hn : ∀ b ∈ bs,NoI w b) : NF w' v x:=by
 obtain ⟨A,n,c,l,rfl,h1,h2,hr,h3⟩:=h
 refine ⟨A,n,c,l,rfl,h1,h2,?_,h3⟩
 intro k v hv
 obtain ⟨ad,e,hc⟩:=hr k v hv
 refine ⟨ad,e,hk.cell hc ?_⟩
 intro hm
 have h5:=noI_cell (hn _ hm) hc
 have h6:=List.mem_of_getElem? hv
 simp only [List.mem_map] at h6
 obtain ⟨m,-,rfl⟩:=h6
 cases h5
theorem NP.keep {bs : List Nat} {w w' : World} {v : Value} {P : P7} (h : NP w v P) (hk : Keep bs w w') (hn : ∀ b ∈ bs,NoI w b) : NP w' v P:=by
 obtain ⟨a,b,c,X,Y,Z,rfl,h1,h2,h3,h4⟩:=h
 exact ⟨a,b,c,X,Y,Z,rfl,h1.keep hk hn,h2.keep hk hn,h3.keep hk hn,h4⟩
def RN (w : World) (n : Nat) (P : P7) : Prop:=∃ cs,Row w n 57 cs∧NP w (.agg cs.toArray) P
theorem NP.cells {w : World} {cs : List Value} {P : P7} (h : NP w (.agg cs.toArray) P) : cs.length = 3∧∀ c ∈ cs,noI c = true:=by
 obtain ⟨a,b,c,X,Y,Z,e,h1,h2,h3,h4⟩:=h
 injection e with e
 have:=congrArg Array.toList e
 simp only at this
 subst this
 refine ⟨rfl,?_⟩
 simp [h1.slice,h2.slice,h3.slice]
theorem RN.noI {w : World} {n : Nat} {P : P7} (h : RN w n P) : NoI w n:=by
 obtain ⟨cs,h1,h2⟩:=h
 exact NoI.of h1 h2.cells.2
theorem RN.keep {bs : List Nat} {w w' : World} {n : Nat} {P : P7} (h : RN w n P) (hk : Keep bs w w') (hn : ∀ b ∈ bs,NoI w b) (hb : n ∉ bs) : RN w' n P:=by
 obtain ⟨cs,h1,h2⟩:=h
 exact ⟨cs,h1.keep hk hb,h2.keep hk hn⟩
theorem RN.ext {w w' : World} {n : Nat} {P : P7} (h : RN w n P) (hx : Ext w w') : RN w' n P:=h.keep (Keep.of_ext (bs:=[]) hx) (by simp) (by simp)
theorem RN.lt {w : World} {n : Nat} {P : P7} (h : RN w n P) : n < w.heap.size:=by
 obtain ⟨cs,h1,h2⟩:=h
 exact h1.lt
def R3w (w : World) (n : Nat) (X Y Z : F7) : Prop:=∃ a b c,Row w n 57 [a,b,c]∧NF w a X∧NF w b Y∧NF w c Z
theorem R3w.noI {w : World} {n : Nat} {X Y Z : F7} (h : R3w w n X Y Z) : NoI w n:=by
 obtain ⟨a,b,c,h1,h2,h3,h4⟩:=h
 exact NoI.of h1 (by simp [h2.slice,h3.slice,h4.slice])
theorem R3w.keep {bs : List Nat} {w w' : World} {n : Nat} {X Y Z : F7} (h : R3w w n X Y Z) (hk : Keep bs w w') (hn : ∀ b ∈ bs,NoI w b) (hb : n ∉ bs) : R3w w' n X Y Z:=by
 obtain ⟨a,b,c,h1,h2,h3,h4⟩:=h
 exact ⟨a,b,c,h1.keep hk hb,h2.keep hk hn,h3.keep hk hn,h4.keep hk hn⟩
theorem R3w.ext {w w' : World} {n : Nat} {X Y Z : F7} (h : R3w w n X Y Z) (hx : Ext w w') : R3w w' n X Y Z:=h.keep (Keep.of_ext (bs:=[]) hx) (by simp) (by simp)
theorem R3w.lt {w : World} {n : Nat} {X Y Z : F7} (h : R3w w n X Y Z) : n < w.heap.size:=by
 obtain ⟨a,b,c,h1,h2,h3,h4⟩:=h
 exact h1.lt
structure NumsOk (NV : Nat→Option F7) (PV : Nat→Option P7) (L : Nat→Bool) (v : Nat→Value) (w : World) : Prop where
 n : ∀ j x,L j = true→NV j = some x→NF w (v j) x
 p : ∀ j x,L j = true→PV j = some x→NP w (v j) x
theorem NumsOk.step {NV : Nat→Option F7} {PV : Nat→Option P7} {L : Nat→Bool} {v : Nat→Value} {w w' : World} {i : Nat} {u : Value} (h : NumsOk NV PV L v w) (hp : ∀ u x,NF w u x→NF w' u x) (hq : ∀ u x,NP w u x→NP w' u x)
  (h1 : ∀ x,NV i = some x→NF w' u x) (h2 : ∀ x,PV i = some x→NP w' u x) : NumsOk NV PV (setB L i) (setV v i u) w':=by
 refine ⟨fun j x hj hx=>?_,fun j x hj hx=>?_⟩
 ·by_cases hji : j = i
  ·subst hji;rw [qcm];exact h1 x hx
  ·rw [qbs hji];rw [qa6 hji] at hj;exact hp _ _ (h.n j x hj hx)
 ·by_cases hji : j = i
  ·subst hji;rw [qcm];exact h2 x hx
  ·rw [qbs hji];rw [qa6 hji] at hj;exact hq _ _ (h.p j x hj hx)
structure InvN (ns : List Nat) (VF : Nat→Value→Prop) (NV : Nat→Option F7) (PV : Nat→Option P7) (trs : List Trk) (w0 : World) (L : Nat→Bool) (v : Nat→Value) (w : World) : Prop where
 inv : Inv ns VF trs w0 L v w
 num : NumsOk NV PV L v w
section
variable {P : Program} {ns : List Nat} {VF : Nat→Value→Prop} {NV : Nat→Option F7} {PV : Nat→Option P7} {trs : List Trk} {w0 : World} {L : Nat→Bool} {v : Nat→Value} {w : World} {i : Nat} {r : Result Next}
theorem InvN.of (h : Inv ns VF trs w0 (fun _=>false) (fun _=>undef) w) : InvN ns VF NV PV trs w0 (fun _=>false) (fun _=>undef) w:=⟨h,⟨fun _ _ h _=>(by cases h),fun _ _ h _=>(by cases h)⟩⟩
theorem InvN.val_step (hI : InvN ns VF NV PV trs w0 L v w) (hL : L i = false) (hna : ∀ t ∈ trs,t.al ≠ some i∧t.st ≠ some i) (h : qak P (fun u w'=>VF i u∧(∀ x,NV i = some x→NF w' u x)∧(∀ x,PV i = some x→NP w' u x)∧Ext w w') r) :
  qak P (fun u w'=>InvN ns VF NV PV trs w0 (setB L i) (setV v i u) w') r :=
 h.mono fun u w' ⟨h1,h2,h3,hx⟩=>⟨Inv.val_step (P:=P) (r:=.ok (.value u) w') hI.inv hL hna ⟨h1,hx⟩,hI.num.step (fun _ _ h=>h.ext hx) (fun _ _ h=>h.ext hx) h2 h3⟩
theorem InvN.val0 (hI : InvN ns VF NV PV trs w0 L v w) (hL : L i = false) (hna : ∀ t ∈ trs,t.al ≠ some i∧t.st ≠ some i) (hN : NV i = none) (hP : PV i = none) (h : qak P (fun u w'=>VF i u∧Ext w w') r) :
  qak P (fun u w'=>InvN ns VF NV PV trs w0 (setB L i) (setV v i u) w') r :=
 hI.val_step hL hna (h.mono fun u w' ⟨h1,hx⟩=>⟨h1,fun x hx=>(by rw [hN] at hx;cases hx),fun x hx=>(by rw [hP] at hx;cases hx),hx⟩)
theorem InvN.numv (X : F7) (hI : InvN ns VF NV PV trs w0 L v w) (hL : L i = false) (hna : ∀ t ∈ trs,t.al ≠ some i∧t.st ≠ some i) (hN : NV i = some X) (hP : PV i = none) (hV : ∀ u,VF i u) (h : qak P (fun u w'=>NF w' u X∧Ext w w') r) :
  qak P (fun u w'=>InvN ns VF NV PV trs w0 (setB L i) (setV v i u) w') r :=
 hI.val_step hL hna (h.mono fun u w' ⟨h1,hx⟩=>⟨hV u,fun x hx=>(by rw [hN] at hx;injection hx with hx;rw [← hx];exact h1),fun x hx=>(by rw [hP] at hx;cases hx),hx⟩)
theorem InvN.ptv (X : P7) (hI : InvN ns VF NV PV trs w0 L v w) (hL : L i = false) (hna : ∀ t ∈ trs,t.al ≠ some i∧t.st ≠ some i) (hN : NV i = none) (hP : PV i = some X) (hV : ∀ u,VF i u) (h : qak P (fun u w'=>NP w' u X∧Ext w w') r) :
  qak P (fun u w'=>InvN ns VF NV PV trs w0 (setB L i) (setV v i u) w') r :=
 hI.val_step hL hna (h.mono fun u w' ⟨h1,hx⟩=>⟨hV u,fun x hx=>(by rw [hN] at hx;cases hx),fun x hx=>(by rw [hP] at hx;injection hx with hx;rw [← hx];exact h1),hx⟩)
theorem InvN.alloc_step (hok : TrsOk ns w0.heap.size trs) (hI : InvN ns VF NV PV trs w0 L v w) (hL : L i = false) (t : Trk) (ht : t ∈ trs) (hal : t.al = some i) (hnst : ∀ s ∈ trs,s.st ≠ some i) (hst : ∀ s,t.st = some s→L s = false) (hN : NV i = none) (hP : PV i = none)
  (h : qak P (fun u w'=>VF i u∧u = .pointer (some ⟨w.heap.size,0,none⟩)∧∃ cs,w' = w.alloc (.cells (List.toArray cs) t.T)∧t.old cs) r) :
  qak P (fun u w'=>InvN ns VF NV PV trs w0 (setB L i) (setV v i u) w') r :=
 h.mono fun u w' h1=>by
  obtain ⟨cs,hw,-⟩:=h1.2.2
  have hx : Ext w w':=by rw [hw];exact qaa _ _
  exact ⟨Inv.alloc_step (P:=P) (r:=.ok (.value u) w') hok hI.inv hL t ht hal hnst hst h1,hI.num.step (fun _ _ h=>h.ext hx) (fun _ _ h=>h.ext hx) (fun x hx=>by rw [hN] at hx;cases hx) (fun x hx=>by rw [hP] at hx;cases hx)⟩
theorem InvN.store_step (hok : TrsOk ns w0.heap.size trs) (hI : InvN ns VF NV PV trs w0 L v w) (hL : L i = false) (t : Trk) (ht : t ∈ trs) (hst : t.st = some i) (hnal : ∀ s ∈ trs,s.al ≠ some i) (hth : t.there L) (hN : NV i = none) (hP : PV i = none) (hno : ∀ cs,t.old cs→∀ c ∈ cs,noI c = true)
  (h : ∀ n cs,t.blk v n→Row w n t.T cs→t.old cs→qak P (fun u w'=>VF i u∧Keep [n] w w'∧∃ cs',Row w' n t.T cs'∧t.new cs') r) :
  qak P (fun u w'=>InvN ns VF NV PV trs w0 (setB L i) (setV v i u) w') r:=by
 obtain ⟨n,cs,hb,hn,hR,_,hold⟩:=hI.inv.trk t ht hth
 have ho:=hold fun s hs=>by rw [hst] at hs;injection hs with hs;rw [← hs];exact hL
 refine (h n cs hb hR ho).mono fun u w' h1=>?_
 have hk:=h1.2.1
 have hnn : ∀ b ∈ [n],NoI w b:=fun b hb=>by
  rw [List.mem_singleton.1 hb]
  exact NoI.of hR (hno cs ho)
 refine ⟨Inv.store_step (P:=P) (r:=.ok (.value u) w') hok hI.inv hL t ht hst hnal hth (fun n' cs' hb' hR' ho'=>?_),hI.num.step (fun _ _ h=>h.keep hk hnn) (fun _ _ h=>h.keep hk hnn) (fun x hx=>by rw [hN] at hx;cases hx) (fun x hx=>by rw [hP] at hx;cases hx)⟩
 have e : n' = n:=by
  unfold Trk.blk at hb hb'
  cases hal : t.al with
  | none=>rw [hal] at hb hb';simp only at hb hb';omega
  | some k =>
   rw [hal] at hb hb';simp only at hb hb'
   rw [hb] at hb'
   injection hb' with hb'
   injection hb' with hb'
   injection hb' with hb'
   exact hb'.symm
 subst e
 exact h1
theorem InvN.skip (P : Program) (hI : InvN ns VF NV PV trs w0 L v w) (hL : L i = false) (hna : ∀ t ∈ trs,t.al ≠ some i∧t.st ≠ some i) (h : VF i undef) (hN : NV i = none) (hP : PV i = none) : InvN ns VF NV PV trs w0 (setB L i) (setV v i undef) w :=
 InvN.val_step (P:=P) (r:=.ok (.value undef) w) hI hL hna ⟨h,fun x hx=>(by rw [hN] at hx;cases hx),fun x hx=>(by rw [hP] at hx;cases hx),Ext.refl _⟩
end
theorem qd4 {P : Program} {w : World} {o : Oper} {ev : Operand→Value} {R : Value→World→Prop} (ty : TypeId) (x : Operand) (ho : o.op = .load ty x) (n k : Nat) (hx : ev x = .pointer (some ⟨n,k,none⟩)) {T : TypeId} {cs : List Value} (hR : Row w n T cs) (v : Value) (hv : cs[k]? = some v) (d : TypeDesc)
  (hu : P.underlying ty = some d) (hd : (match d with | .struct _ | .array _ _=>true | _=>false) = false) (h : R v w) : qak P R ((execOp ev o).run P w):=by
 have hc : w.cell? ⟨n,k,none⟩ = some v:=by
  unfold Row at hR
  rw [Lib.cell_of_heap hR]
  simpa using hv
 unfold execOp
 have hagg : (isAgg ty).run P w = .ok false w:=by
  unfold isAgg
  rw [Sem.run_bind,run_underlying hu w]
  cases d <;> simp_all
 simp only [ho,hx,Instr.loadAt,Instr.sureAddr,loadVar,Sem.run_bind,Sem.run_pure,Result.andThen_ok,hagg]
 simp [hc]
 exact h
section
variable {w : World} {o : Oper} {ev : Operand→Value} {R : Value→World→Prop} {n : Nat} {X Y Z : F7}
theorem qqx (hR : R3w w n X Y Z) (p : Operand) (ho : o.op = .load 53 p) (hx : ev p = .pointer (some ⟨n,0,none⟩)) (h : ∀ u,NF w u X→R u w) : qak Tryz.prog R ((execOp ev o).run Tryz.prog w):=by
 obtain ⟨a,b,c,h1,h2,h3,h4⟩:=hR
 exact qd4 _ p ho n 0 hx h1 a rfl _ Tryz.underlying53 rfl (h _ h2)
theorem qqw (hR : R3w w n X Y Z) (p : Operand) (ho : o.op = .load 53 p) (hx : ev p = .pointer (some ⟨n,1,none⟩)) (h : ∀ u,NF w u Y→R u w) : qak Tryz.prog R ((execOp ev o).run Tryz.prog w):=by
 obtain ⟨a,b,c,h1,h2,h3,h4⟩:=hR
 exact qd4 _ p ho n 1 hx h1 b rfl _ Tryz.underlying53 rfl (h _ h3)
theorem ld_3z (hR : R3w w n X Y Z) (p : Operand) (ho : o.op = .load 53 p) (hx : ev p = .pointer (some ⟨n,2,none⟩)) (h : ∀ u,NF w u Z→R u w) : qak Tryz.prog R ((execOp ev o).run Tryz.prog w):=by
 obtain ⟨a,b,c,h1,h2,h3,h4⟩:=hR
 exact qd4 _ p ho n 2 hx h1 c rfl _ Tryz.underlying53 rfl (h _ h4)
end
end Go.Proofs.YtgeihelkkhjjaaaGreatDoor
end
section
namespace Go.Proofs.YtgeihelkkhjjaaaGreatDoor
open Go.RowKit Go.Cv
theorem codeinfo : (Tryz.prog.info? 98).map (·.comparable) = some true:=by kernel_rfl
@[go_sem] theorem eql_err (a b : Int) (w : World) : (binOp .eql 45 (.iface 98 (.int .i64 a)) (.iface 98 (.int .i64 b))).run Tryz.prog w = .ok (.bool (a == b)) w :=
 qgl w a b Tryz.underlying45 Tryz.underlying98 codeinfo
end Go.Proofs.YtgeihelkkhjjaaaGreatDoor
end
section
namespace Go.Proofs.YtgeihelkkhjjaaaGreatDoor
open Go.RowKit Go.Cv Go.Cv.Pr Go.Cv.Grp
section
variable {w : World} {o : Oper} {ev : Operand→Value} {R : Value→World→Prop}
theorem qbi (c a b : Operand) (ho : o.op = .pick c a b) (hc : ev c = .bool true) (h : R (ev a) w) : qak Tryz.prog R ((execOp ev o).run Tryz.prog w):=by
 unfold execOp
 simp [ho,hc,go_sem]
 exact h
theorem qce (c a b : Operand) (ho : o.op = .pick c a b) (hc : ev c = .bool false) (h : R (ev b) w) : qak Tryz.prog R ((execOp ev o).run Tryz.prog w):=by
 unfold execOp
 simp [ho,hc,go_sem]
 exact h
theorem qmc (a : Operand) (t : TypeId) (ho : o.op = .binOp .eql 45 a (.const .nilIface) t) (ha : ev a = .nilIface) (hb : ev (.const .nilIface) = .nilIface) (h : R (.bool true) w) : qak Tryz.prog R ((execOp ev o).run Tryz.prog w):=by
 unfold execOp
 simp [ho,ha,hb,eqGuard,go_sem]
 exact h
theorem qcf (a : Operand) (t : TypeId) (ho : o.op = .binOp .neq 45 a (.const .nilIface) t) (ha : ev a = .nilIface) (hb : ev (.const .nilIface) = .nilIface) (h : R (.bool false) w) : qak Tryz.prog R ((execOp ev o).run Tryz.prog w):=by
 unfold execOp
 simp [ho,ha,hb,eqGuard,go_sem]
 exact h
theorem qhq (a : Operand) (x : Bool) (ho : o.op = .unOp .not 4 a) (ha : ev a = .bool x) (h : R (.bool !x) w) : qak Tryz.prog R ((execOp ev o).run Tryz.prog w):=by
 unfold execOp
 simp [ho,ha,go_sem]
 exact h
theorem qa9 (a : Operand) (k : Nat) (cs : Array Value) (ho : o.op = .extract a k) (ha : ev a = .tuple cs) (u : Value) (hu : cs[k]? = some u) (h : R u w) : qak Tryz.prog R ((execOp ev o).run Tryz.prog w):=by
 unfold execOp
 simp [ho,ha,hu,go_sem,Instr.extract]
 exact h
theorem qig (a : Operand) (t : TypeId) (ho : o.op = .binOp .eql 45 a (.const .nilIface) t) (ha : ev a = qa8) (hb : ev (.const .nilIface) = .nilIface) (h : R (.bool false) w) : qak Tryz.prog R ((execOp ev o).run Tryz.prog w):=by
 unfold qa8 at ha
 unfold execOp
 simp only [ho,ha,hb]
 go_simp
 exact h
theorem qif (a : Operand) (t : TypeId) (ho : o.op = .binOp .neq 45 a (.const .nilIface) t) (ha : ev a = qa8) (hb : ev (.const .nilIface) = .nilIface) (h : R (.bool true) w) : qak Tryz.prog R ((execOp ev o).run Tryz.prog w):=by
 unfold qa8 at ha
 unfold execOp
 simp only [ho,ha,hb]
 go_simp
 exact h
end
end Go.Proofs.YtgeihelkkhjjaaaGreatDoor
end
