/-
  Texts of the lemmas below the claim, put together: CrvF CrvG.
-/
import Derived.Test.YtgeihelkkhjjaaaGreatDoorKCrvC
import Derived.Test.YtgeihelkkhjjaaaGreatDoorKCrvE
set_option linter.unusedSimpArgs false
set_option linter.unusedVariables false
set_option maxRecDepth 20000
set_option maxHeartbeats 8000000
section
namespace Go.Proofs.YtgeihelkkhjjaaaGreatDoor
open Go.RowKit Go.Cv Go.Cv.Pr Go.Cv.Grp
def qa8 : Value:=.iface 98 (.int .i64 29)
theorem qic {f g : Nat→UInt8} (h : C7.on (tf (V f)) (tf (V g))) (w : World) : Calls Tryz.prog 70 #[.agg (pc f g)] w fun e w'=>e = .returned (.bool true)∧Ext w w':=by
 have h' : tf (V g) * tf (V g) - tf (V f) * tf (V f) = 1 + C7.d * (tf (V f) * tf (V f)) * (tf (V g) * tf (V g)):=h
 have:=is_any f g w
 rwa [decide_eq_true h'] at this
theorem cinP {f g : Nat→UInt8} {P : P7} (hx : tf (V f) = P.x) (hy : tf (V g) = P.y) (w : World) : Calls Tryz.prog 73 #[.agg (pc f g)] w fun e w'=>∃ r,e = .returned r∧isP r P∧Ext w w':=by
 refine (cin_any f g w).mono ?_
 rintro e w' ⟨r,rfl,hr,hx'⟩
 rw [hx,hy] at hr
 exact ⟨r,rfl,⟨_,_,_,_,hr,Rep.of P⟩,hx'⟩
theorem qqz {cs : List Value} {P : P7} (h : isP (.agg cs.toArray) P) : cs.length = 16:=by
 obtain ⟨X,Y,Z,T,h1,_⟩:=h
 exact qg0 h1
theorem V_z : tf (V fun _=>0) = 0:=by
 have : V (fun _=>0) = 0:=by decide
 rw [this,qcw]
theorem fsubF (f g : Nat→UInt8) (w : World) : Calls Tryz.prog 92 #[.agg (qab f),.agg (qab g)] w fun e w'=>e = .returned (.agg (qab (fb (tf (V f) - tf (V g)))))∧Ext w w':=by
 have:=fsub_any f g w
 rwa [ob_fb,sub_tf] at this
theorem qjk (f : Nat→UInt8) (w : World) : Calls Tryz.prog 76 #[.agg (qab f)] w fun e w'=>e = .returned (.agg (qab (fb (tf (V f)))))∧Ext w w':=qob f w
theorem qo1 {ops : Array Oper} {rest : List Oper} {o : Oper} {a : Act} {w : World} {Q : Exit→Act→World→Prop} {n : Nat} {f g : Nat→UInt8} (hR : RV w n 49 (fun u=>u = .agg (pc f g))) (hgd : Region.wanted o (yielded ops a.tmps) = true) (x : Operand) (ho : o.op = .load 49 x) (hx : a.eval x = .pointer (some ⟨n,0,none⟩))
  (h : wpList Tryz.prog ops Q rest (a.put o.dst (.agg (pc f g))) w) : wpList Tryz.prog ops Q (o :: rest) a w :=
 wpList_step fun K hK=>by
  rw [if_pos hgd]
  obtain ⟨cs,h1,h2⟩:=hR
  obtain ⟨fs,hu⟩:=uPt
  rw [qbz h2] at h1
  exact wp_load_row _ x ho n hx _ (pcL f g).toArray (0,0) _ h1 hu rfl (by rw [List.size_toArray,qa1];exact iPt) (hK _ _ h)
theorem qbf {fn : Func} {p u : Tmp} (h : fn.results = #[.cell p 49,.tmp u]) (tmps : Array Value) {W : World} {n : Nat} {f g : Nat→UInt8} (hR : RV W n 49 (fun u=>u = .agg (pc f g)))
  (hp : tmps.getD p undef = .pointer (some ⟨n,0,none⟩)) : (results fn tmps).run Tryz.prog W = .ok (.tuple #[.agg (pc f g),tmps.getD u undef]) W:=by
 obtain ⟨cs,h1,h2⟩:=hR
 obtain ⟨fs,hu⟩:=uPt
 have hl:=run_loadVar_row W n _ 49 cs.toArray (0,0) _ h1 hu rfl (by rw [List.size_toArray,qbz h2,qa1];exact iPt)
 rw [results_cell_tmp h,hp]
 simp only [asAddr,Sem.run_pure,Result.andThen_ok,hl]
 rw [show Value.agg (List.toArray cs) = Value.agg (pc f g) from h2]
theorem qej {w : World} {o : Oper} {ev : Operand→Value} {R : Value→World→Prop} (t : TypeId) (parts : Array (Nat × Operand)) (ho : o.op = .build t parts) (cells : Array Value) (h : Tryz.prog.built t (parts.map fun (i,x)=>(i,ev x)).toList = some cells) (hR : R (.agg cells) w) : qak Tryz.prog R ((execOp ev o).run Tryz.prog w):=by
 unfold execOp
 simp only [ho,Sem.run_bind,run_build w t _ cells h,Result.andThen_ok]
 exact hR
theorem zeroP : Tryz.prog.built 49 [] = some (List.replicate 64 (Value.int .u8 0)).toArray:=by kernel_rfl
theorem qct {w : World} {o : Oper} {ev : Operand→Value} {R : Value→World→Prop} (ho : o.op = .build 49 #[]) (h : R (.agg (pc (fun _=>0) (fun _=>0))) w) : qak Tryz.prog R ((execOp ev o).run Tryz.prog w):=by
 have hb:=run_build w 49 #[] _ zeroP
 unfold execOp
 simp only [ho,List.map_toArray,List.map_nil,Sem.run_bind,hb,Result.andThen_ok]
 rw [qp3] at h
 exact h
theorem base_x : (#[.int .u8 26,.int .u8 213,.int .u8 37,.int .u8 143,.int .u8 96,.int .u8 45,.int .u8 86,.int .u8 201,.int .u8 178,.int .u8 167,.int .u8 37,.int .u8 149,.int .u8 96,.int .u8 199,.int .u8 44,.int .u8 105,.int .u8 92,.int .u8 220,.int .u8 214,.int .u8 253,.int .u8 49,.int .u8 226,.int .u8 164,.int .u8 192,.int .u8 254,.int .u8 83,.int .u8 110,.int .u8 205,.int .u8 211,.int .u8 54,.int .u8 105,.int .u8 33] : Array Value) = qab (fb (tf bxN)):=by
 rw [qc5]
 kernel_rfl
theorem base_y : (#[.int .u8 88,.int .u8 102,.int .u8 102,.int .u8 102,.int .u8 102,.int .u8 102,.int .u8 102,.int .u8 102,.int .u8 102,.int .u8 102,.int .u8 102,.int .u8 102,.int .u8 102,.int .u8 102,.int .u8 102,.int .u8 102,.int .u8 102,.int .u8 102,.int .u8 102,.int .u8 102,.int .u8 102,.int .u8 102,.int .u8 102,.int .u8 102,.int .u8 102,.int .u8 102,.int .u8 102,.int .u8 102,.int .u8 102,.int .u8 102,.int .u8 102,.int .u8 102] : Array Value) = qab (fb (tf byN)):=by
 rw [qc5]
 kernel_rfl
section
variable {w : World} {o : Oper} {ev : Operand→Value} {R : Value→World→Prop} {n : Nat} {P : P7}
theorem ld_Pw (hR : RV w n 105 (fun u=>isP u P)) (p : Operand) (ho : o.op = .load 105 p) (hx : ev p = .pointer (some ⟨n,0,none⟩)) (h : ∀ u,isP u P→R u w) : qak Tryz.prog R ((execOp ev o).run Tryz.prog w):=by
 obtain ⟨cs,h1,X,Y,Z,T,h2,h3⟩:=hR
 exact ld_W ⟨cs,h1,h2⟩ p ho hx fun u hu=>h u ⟨X,Y,Z,T,hu,h3⟩
theorem st_Pw {cs : List Value} (hR : Row w n 105 cs) (hl : cs.length = 16) (p q : Operand) (ho : o.op = .store 105 p q) (hx : ev p = .pointer (some ⟨n,0,none⟩)) (hy : isP (ev q) P)
  (h : ∀ w' cs',Row w' n 105 cs'→isP (.agg (List.toArray cs')) P→Keep [n] w w'→R undef w') : qak Tryz.prog R ((execOp ev o).run Tryz.prog w):=by
 obtain ⟨X,Y,Z,T,h2,h3⟩:=hy
 exact st_W hR hl p q ho hx h2 fun w' cs' hr he hk=>h w' cs' hr ⟨X,Y,Z,T,he,h3⟩ hk
end
def qs7 : List Plan:=[⟨[],[]⟩]
def qs8 : List Plan:=[⟨[],[]⟩,⟨[],[]⟩,⟨[0,1],[(1,0),(2,1)]⟩,⟨[0,1,2],[(3,2)]⟩]
theorem qnv (w : World) :
  Calls Tryz.prog 44 #[] w fun e w'=>e = .returned (.agg (pc (fb B7.x) (fb B7.y)))∧Ext w w':=by
 go_enter Tryz.func44,Tryz.ntmps44
 have hx : Ext w w:=Ext.refl w
 go_upto_region 0 with fail
 have hok : TrsOk [] w.heap.size ([(tk (some 0) 0 49 (none) (sz 64) (fun _=>True))] : List Trk):=⟨by simp [tk],by simp [tk],by simp [tk],by simp [tk]⟩
 refine qac (Inv [] (fun _ _=>True) [(tk (some 0) 0 49 (none) (sz 64) (fun _=>True))] w) qs7 [(0,0)] 4 rfl (by kernel_rfl) (Inv.start0 hok (by simp)) ⟨?_,trivial⟩ ?_
 ·exact qa7 0 rfl rfl rfl rfl rfl hok fun L v w D I=>qj3 rfl fun c h=>⟨trivial,rfl,c,rfl,qa5 c h⟩
 intro L v1 W1 hL hI
 obtain ⟨r,hb_r,lo_r,R_r⟩:=hI.made0 0 rfl (hL 0 (by decide))
 have bs_r:=Nat.le_trans hx.size lo_r
 have lt_r:=R_r.lt
 replace hx:=hx.trans hI.keep.to_ext
 clear hI hL hok L
 simp only [putP,Act.put,zA,zB,zC,hb_r]
 go_upto_region 1 with fail
 have hok : TrsOk [r] W1.heap.size ([(tk (none) r 49 (some 3) (sz 64) (fun u=>u = .agg (pc (fb (tf bxN)) (fb (tf byN)))))] : List Trk):=⟨by simp [tk,R_r.lt],by simp [tk],by simp [tk],by simp [tk]⟩
 refine qac (Inv [r] (fun j u=>match j with | 0=>u = .agg (qab (fb (tf bxN))) | 1=>u = .agg (qab (fb (tf byN))) | 2=>u = .agg (pc (fb (tf bxN)) (fb (tf byN))) | _=>True) [(tk (none) r 49 (some 3) (sz 64) (fun u=>u = .agg (pc (fb (tf bxN)) (fb (tf byN)))))] W1) qs8 [(1,0),(2,1),(3,2)] 4 rfl (by kernel_rfl) (Inv.start0 hok (by
   simp only [zD,zE,zF,zG,zH]
   exact fun _=>R_r)) ⟨?_,?_,?_,?_,trivial⟩ ?_
 ·intro L v w hL hD hC hI
  refine ⟨fun _=>?_,fun hw=>by cases hw⟩
  refine hI.val_step hL (by simp) ?_
  rw [show qaj qs8 0 = [] from rfl]
  exact qej _ _ rfl #[.int .u8 26,.int .u8 213,.int .u8 37,.int .u8 143,.int .u8 96,.int .u8 45,.int .u8 86,.int .u8 201,.int .u8 178,.int .u8 167,.int .u8 37,.int .u8 149,.int .u8 96,.int .u8 199,.int .u8 44,.int .u8 105,.int .u8 92,.int .u8 220,.int .u8 214,.int .u8 253,.int .u8 49,.int .u8 226,.int .u8 164,.int .u8 192,.int .u8 254,.int .u8 83,.int .u8 110,.int .u8 205,.int .u8 211,.int .u8 54,.int .u8 105,.int .u8 33] (by kernel_rfl) ⟨congrArg Value.agg base_x,Ext.refl _⟩
 ·intro L v w hL hD hC hI
  refine ⟨fun _=>?_,fun hw=>by cases hw⟩
  refine hI.val_step hL (by simp) ?_
  rw [show qaj qs8 1 = [] from rfl]
  exact qej _ _ rfl #[.int .u8 88,.int .u8 102,.int .u8 102,.int .u8 102,.int .u8 102,.int .u8 102,.int .u8 102,.int .u8 102,.int .u8 102,.int .u8 102,.int .u8 102,.int .u8 102,.int .u8 102,.int .u8 102,.int .u8 102,.int .u8 102,.int .u8 102,.int .u8 102,.int .u8 102,.int .u8 102,.int .u8 102,.int .u8 102,.int .u8 102,.int .u8 102,.int .u8 102,.int .u8 102,.int .u8 102,.int .u8 102,.int .u8 102,.int .u8 102,.int .u8 102,.int .u8 102] (by kernel_rfl) ⟨congrArg Value.agg base_y,Ext.refl _⟩
 ·exact sV fun L v w D N I=>bd_P _ _ rfl (I.val 0 (D 0 rfl)) (I.val 1 (D 1 rfl)) ldK
 ·exact s_put 0 rfl rfl rfl rfl rfl hok fun L v w D I cs hR ho=>st_P hR (qaq ho) _ _ rfl rfl (I.val 2 (D 2 rfl)) fun _ c a b k=>⟨trivial,k,c,a,b⟩
 intro L v2 W2 hL hI
 replace R_r:=hI.new 0 rfl (hL 3 (by decide))
 replace lt_r:=ltk lt_r hI.keep.size
 replace hx:=hx.keep1 hI.keep bs_r
 clear hI hL hok L
 simp only [putP,Act.put,zA,zB,zC]
 go_wp2
 obtain ⟨cs,hr,hv⟩:=R_r
 replace hv : (Value.agg (List.toArray cs)) = .agg (pc (fb (tf bxN)) (fb (tf byN))):=hv
 obtain ⟨fs,hu'⟩:=uPt
 refine bodyPost_ret (results_cell_row (p:=0) (ty:=49) rfl _ _ r 49 _ (0,0) _ rfl hr hu' rfl (by rw [List.size_toArray,(show cs.length = 64 by rw [qbz hv];exact qa1 _ _)];exact iPt)) rfl ?_
 exact ⟨by rw [hv];rfl,hx⟩
def qtb : List Plan:=[⟨[],[]⟩,⟨[],[]⟩,⟨[],[]⟩]
def qtc : List Plan:=[⟨[],[]⟩,⟨[],[]⟩,⟨[1],[(10,1)]⟩,⟨[0,1,2],[(9,0),(11,2)]⟩,⟨[],[]⟩,⟨[4],[(13,4)]⟩,⟨[0,1,2,3,4,5],[(14,5)]⟩,⟨[0,1,2,3,4,5,6],[(12,3),(15,6)]⟩,⟨[0,1,2,3,4,5,6,7],[(16,7)]⟩,⟨[0,1,2,3,4,5,6,7,8],[]⟩]
def qs9 : List Plan:=[⟨[],[]⟩,⟨[],[]⟩,⟨[],[]⟩,⟨[],[]⟩]
def qta : List Plan:=[⟨[],[]⟩,⟨[0],[(16,0)]⟩,⟨[],[]⟩,⟨[0,1,2],[(18,2)]⟩,⟨[0,1,2,3],[(17,1),(19,3)]⟩,⟨[0,1,2,3,4],[(20,4)]⟩,⟨[0,1,2,3,4,5],[(21,5)]⟩,⟨[0,1,2,3,4,5,6],[]⟩]
theorem neg_on {f g : Nat→UInt8} (h : C7.on (tf (V f)) (tf (V g))) (w : World) :
  Calls Tryz.prog 57 #[.agg (pc f g)] w fun e w'=>e = .returned (.tuple #[.agg (pc (fb (0 - tf (V f))) (fb (tf (V g)))),.nilIface])∧Ext w w':=by
 go_enter Tryz.func57,Tryz.ntmps57
 have hx : Ext w w:=Ext.refl w
 go_upto_region 0 with fail
 have hok : TrsOk [] w.heap.size ([(tk (some 0) 0 49 (none) (fun u=>u = .agg (pc (f) (g))) (fun _=>True)),(tk (some 1) 0 49 (none) (sz 64) (fun _=>True))] : List Trk):=⟨by simp [tk],by simp [tk],by simp [tk],by simp [tk]⟩
 refine qac (Inv [] (fun j u=>match j with | 2=>u = .nilIface | _=>True) [(tk (some 0) 0 49 (none) (fun u=>u = .agg (pc (f) (g))) (fun _=>True)),(tk (some 1) 0 49 (none) (sz 64) (fun _=>True))] w) qtb [(1,0),(2,1),(3,2)] 17 rfl (by kernel_rfl) (Inv.start0 hok (by simp)) ⟨?_,?_,?_,trivial⟩ ?_
 ·exact qa7 0 rfl rfl rfl rfl rfl hok fun L v w D I=>qba (pcL f g) rfl rfl ⟨trivial,rfl,_,rfl,rfl⟩
 ·exact qa7 1 rfl rfl rfl rfl rfl hok fun L v w D I=>qj3 rfl fun c h=>⟨trivial,rfl,c,rfl,qa5 c h⟩
 ·exact sV fun L v w D N I=>⟨rfl,Ext.refl _⟩
 intro L v1 W1 hL hI
 obtain ⟨b,hb_b,lo_b,R_b⟩:=hI.made0 0 rfl (hL 0 (by decide))
 obtain ⟨r,hb_r,lo_r,R_r⟩:=hI.made0 1 rfl (hL 1 (by decide))
 have ne_b_r:=hI.two 0 1 rfl rfl rfl rfl rfl (hL 0 (by decide)) (hL 1 (by decide)) hb_b hb_r
 have bs_r:=Nat.le_trans hx.size lo_r
 have lt_r:=R_r.lt
 replace hx:=hx.trans hI.keep.to_ext
 have hs_3_0 : (v1 2) = .nilIface:=hI.val 2 (hL 2 (by decide))
 clear hI hL hok L
 simp only [putP,Act.put,zA,zB,zC,hb_b,hb_r,hs_3_0]
 go_upto_region 3 with (first | ((with_reducible refine qo1 R_b ?_ (.tmp 1) ?_ ?_ ?_);rfl;rfl;rfl) | (go_at_call 70;(with_reducible refine (qic h _).mono ?_);rintro e wq ⟨rfl,hxq⟩))
 replace R_b:=R_b.ext hxq
 replace R_r:=R_r.ext hxq
 replace lt_r:=Nat.lt_of_lt_of_le lt_r hxq.size
 replace hx:=hx.trans hxq
 have hok : TrsOk [r] wq.heap.size ([(tk (none) r 49 (some 8) (sz 64) (fun u=>u = .agg (pc (fb (tf (V (fun _=>0)) - tf (V (f)))) (fb (tf (V (g)))))))] : List Trk):=⟨by simp [tk,R_r.lt],by simp [tk],by simp [tk],by simp [tk]⟩
 refine qag (Inv [r] (fun j u=>match j with | 0=>u = .agg (qab (fun _=>0)) | 1=>u = .pointer (some ⟨b,0,none⟩) | 2=>u = .agg (qab (f)) | 3=>u = .agg (qab (fb (tf (V (fun _=>0)) - tf (V (f))))) | 4=>u = .pointer (some ⟨b,32,none⟩) | 5=>u = .agg (qab (g)) | 6=>u = .agg (qab (fb (tf (V (g))))) | 7=>u = .agg (pc (fb (tf (V (fun _=>0)) - tf (V (f)))) (fb (tf (V (g))))) | 9=>u = .nilIface | _=>True) [(tk (none) r 49 (some 8) (sz 64) (fun u=>u = .agg (pc (fb (tf (V (fun _=>0)) - tf (V (f)))) (fb (tf (V (g)))))))] wq) qtc [(9,0),(10,1),(11,2),(12,3),(13,4),(14,5),(15,6),(16,7),(3,9)] 17 (by kernel_rfl) rfl (by kernel_rfl) (Inv.start hok (by
   simp only [zD,zE,zF,zG,zH]
   exact fun _=>R_r)) ⟨?_,?_,?_,?_,?_,?_,?_,?_,?_,?_,trivial⟩ ?_
 ·exact sV fun L v w D N I=>bd_B0 rfl ldK
 ·exact sV fun L v w D N I=>qal rfl rfl fPT0 ⟨rfl,Ext.refl _⟩
 ·exact sV fun L v w D N I=>qma (R_b.keep1 I.keep ne_b_r) _ rfl (I.val 1 (D 1 rfl)) ldK
 ·exact sV fun L v w D N I=>gfSub _ _ rfl rfl (qai (qaf (fsubF (fun _=>0) (f) w)) (ar2 (I.val 0 (D 0 rfl)) (I.val 2 (D 2 rfl))))
 ·exact sV fun L v w D N I=>qal rfl rfl fPT1 ⟨rfl,Ext.refl _⟩
 ·exact sV fun L v w D N I=>ql9 (R_b.keep1 I.keep ne_b_r) _ rfl (I.val 4 (D 4 rfl)) ldK
 ·exact sV fun L v w D N I=>gfRed _ _ rfl rfl (qai (qaf (qjk (g) w)) (ar1 (I.val 5 (D 5 rfl))))
 ·exact sV fun L v w D N I=>bd_P _ _ rfl (I.val 3 (D 3 rfl)) (I.val 6 (D 6 rfl)) ldK
 ·exact s_put 0 rfl rfl rfl rfl rfl hok fun L v w D I cs hR ho=>st_P hR (qaq ho) _ _ rfl rfl (I.val 7 (D 7 rfl)) fun _ c a b k=>⟨trivial,k,c,a,b⟩
 ·exact sV fun L v w D N I=>⟨rfl,Ext.refl _⟩
 intro L v2 W2 hL hI
 replace R_b:=R_b.keep1 hI.keep ne_b_r
 replace R_r:=hI.new 0 rfl (hL 8 (by decide))
 replace lt_r:=ltk lt_r hI.keep.size
 replace hx:=hx.keep1 hI.keep bs_r
 have hs_3_3 : (v2 9) = .nilIface:=hI.val 9 (hL 9 (by decide))
 clear hI hL hok L
 simp only [putP,Act.put,zA,zB,zC,hs_3_3]
 go_wp2
 rw [V_z] at R_r
 refine bodyPost_ret (qbf rfl _ R_r rfl) rfl ?_
 refine ⟨?_,hx⟩
 rfl
theorem add_on {f g k l : Nat→UInt8} {P Q : P7} (hPx : tf (V f) = P.x) (hPy : tf (V g) = P.y) (hQx : tf (V k) = Q.x) (hQy : tf (V l) = Q.y) (w : World) :
  Calls Tryz.prog 58 #[.agg (pc f g),.agg (pc k l)] w fun e w'=>e = .returned (.tuple #[.agg (pc (fb (P.add Q).x) (fb (P.add Q).y)),.nilIface])∧Ext w w':=by
 go_enter Tryz.func58,Tryz.ntmps58
 have hx : Ext w w:=Ext.refl w
 go_upto_region 0 with fail
 have hok : TrsOk [] w.heap.size ([(tk (some 0) 0 49 (none) (fun u=>u = .agg (pc (f) (g))) (fun _=>True)),(tk (some 1) 0 49 (none) (fun u=>u = .agg (pc (k) (l))) (fun _=>True)),(tk (some 2) 0 49 (none) (sz 64) (fun _=>True))] : List Trk):=⟨by simp [tk],by simp [tk],by simp [tk],by simp [tk]⟩
 refine qac (Inv [] (fun j u=>match j with | 3=>u = .nilIface | _=>True) [(tk (some 0) 0 49 (none) (fun u=>u = .agg (pc (f) (g))) (fun _=>True)),(tk (some 1) 0 49 (none) (fun u=>u = .agg (pc (k) (l))) (fun _=>True)),(tk (some 2) 0 49 (none) (sz 64) (fun _=>True))] w) qs9 [(2,0),(3,1),(4,2),(5,3)] 22 rfl (by kernel_rfl) (Inv.start0 hok (by simp)) ⟨?_,?_,?_,?_,trivial⟩ ?_
 ·exact qa7 0 rfl rfl rfl rfl rfl hok fun L v w D I=>qba (pcL f g) rfl rfl ⟨trivial,rfl,_,rfl,rfl⟩
 ·exact qa7 1 rfl rfl rfl rfl rfl hok fun L v w D I=>qba (pcL k l) rfl rfl ⟨trivial,rfl,_,rfl,rfl⟩
 ·exact qa7 2 rfl rfl rfl rfl rfl hok fun L v w D I=>qj3 rfl fun c h=>⟨trivial,rfl,c,rfl,qa5 c h⟩
 ·exact sV fun L v w D N I=>⟨rfl,Ext.refl _⟩
 intro L v1 W1 hL hI
 obtain ⟨b,hb_b,lo_b,R_b⟩:=hI.made0 0 rfl (hL 0 (by decide))
 obtain ⟨c,hb_c,lo_c,R_c⟩:=hI.made0 1 rfl (hL 1 (by decide))
 obtain ⟨r,hb_r,lo_r,R_r⟩:=hI.made0 2 rfl (hL 2 (by decide))
 have ne_b_r:=hI.two 0 2 rfl rfl rfl rfl rfl (hL 0 (by decide)) (hL 2 (by decide)) hb_b hb_r
 have ne_c_r:=hI.two 1 2 rfl rfl rfl rfl rfl (hL 1 (by decide)) (hL 2 (by decide)) hb_c hb_r
 have bs_r:=Nat.le_trans hx.size lo_r
 have lt_r:=R_r.lt
 replace hx:=hx.trans hI.keep.to_ext
 have hs_5_0 : (v1 3) = .nilIface:=hI.val 3 (hL 3 (by decide))
 clear hI hL hok L
 simp only [putP,Act.put,zA,zB,zC,hb_b,hb_c,hb_r,hs_5_0]
 have h : C7.on (tf (V f)) (tf (V g)):=by rw [hPx,hPy];exact P.on
 have h2 : C7.on (tf (V k)) (tf (V l)):=by rw [hQx,hQy];exact Q.on
 go_upto_region 3 with (first | ((with_reducible refine qo1 R_b ?_ (.tmp 2) ?_ ?_ ?_);rfl;rfl;rfl) | (go_at_call 70;(with_reducible refine (qic h _).mono ?_);rintro e wp ⟨rfl,hxp⟩;replace R_c:=R_c.ext hxp;have hxq:=hxp) | ((with_reducible refine qo1 R_c ?_ (.tmp 3) ?_ ?_ ?_);rfl;rfl;rfl) | (go_at_call 70;(with_reducible refine (qic h2 _).mono ?_);rintro e wq ⟨rfl,hxq⟩;have hxq2:=hxq;replace hxq:=hxp.trans hxq))
 replace R_b:=R_b.ext hxq
 replace R_c:=R_c.ext hxq2
 replace R_r:=R_r.ext hxq
 replace lt_r:=Nat.lt_of_lt_of_le lt_r hxq.size
 replace hx:=hx.trans hxq
 have hok : TrsOk [r] wq.heap.size ([(tk (none) r 49 (some 6) (sz 64) (fun u=>u = .agg (pc (fb ((P).add (Q)).x) (fb ((P).add (Q)).y))))] : List Trk):=⟨by simp [tk,R_r.lt],by simp [tk],by simp [tk],by simp [tk]⟩
 refine qag (Inv [r] (fun j u=>match j with | 0=>u = .agg (pc (f) (g)) | 1=>isP u (P) | 2=>u = .agg (pc (k) (l)) | 3=>isP u (Q) | 4=>isP u ((P).add (Q)) | 5=>u = .agg (pc (fb ((P).add (Q)).x) (fb ((P).add (Q)).y)) | 7=>u = .nilIface | _=>True) [(tk (none) r 49 (some 6) (sz 64) (fun u=>u = .agg (pc (fb ((P).add (Q)).x) (fb ((P).add (Q)).y))))] wq) qta [(16,0),(17,1),(18,2),(19,3),(20,4),(21,5),(5,7)] 22 (by kernel_rfl) rfl (by kernel_rfl) (Inv.start hok (by
   simp only [zD,zE,zF,zG,zH]
   exact fun _=>R_r)) ⟨?_,?_,?_,?_,?_,?_,?_,?_,trivial⟩ ?_
 ·exact sV fun L v w D N I=>ld_P (R_b.keep1 I.keep ne_b_r) _ rfl rfl ldK
 ·exact sV fun L v w D N I=>gcIn _ _ rfl rfl (qai (cinP hPx hPy w) (ar1 (I.val 0 (D 0 rfl))))
 ·exact sV fun L v w D N I=>ld_P (R_c.keep1 I.keep ne_c_r) _ rfl rfl ldK
 ·exact sV fun L v w D N I=>gcIn _ _ rfl rfl (qai (cinP hQx hQy w) (ar1 (I.val 2 (D 2 rfl))))
 ·exact sV fun L v w D N I=>gPlus _ _ rfl rfl (qgd (I.val 1 (D 1 rfl)) (I.val 3 (D 3 rfl)) w)
 ·exact sV fun L v w D N I=>gcOut _ _ rfl rfl (qaf (qnr (I.val 4 (D 4 rfl)) w))
 ·exact s_put 0 rfl rfl rfl rfl rfl hok fun L v w D I cs hR ho=>st_P hR (qaq ho) _ _ rfl rfl (I.val 5 (D 5 rfl)) fun _ c a b k=>⟨trivial,k,c,a,b⟩
 ·exact sV fun L v w D N I=>⟨rfl,Ext.refl _⟩
 intro L v2 W2 hL hI
 replace R_b:=R_b.keep1 hI.keep ne_b_r
 replace R_c:=R_c.keep1 hI.keep ne_c_r
 replace R_r:=hI.new 0 rfl (hL 6 (by decide))
 replace lt_r:=ltk lt_r hI.keep.size
 replace hx:=hx.keep1 hI.keep bs_r
 have hs_5_3 : (v2 7) = .nilIface:=hI.val 7 (hL 7 (by decide))
 clear hI hL hok L
 simp only [putP,Act.put,zA,zB,zC,hs_5_3]
 go_wp2
 refine bodyPost_ret (qbf rfl _ R_r rfl) rfl ?_
 refine ⟨?_,hx⟩
 rfl
end Go.Proofs.YtgeihelkkhjjaaaGreatDoor
end
section
namespace Go.Cv
open Go.RowKit Go.Cv.Pr Go.Cv.Grp
theorem RV.byte {w : World} {n : Nat} {T : TypeId} {F : Nat→UInt8} (h : RV w n T (fun u=>u = .agg (qab F))) {i : Nat} (hi : i < 32) : w.cell? ⟨n,i,none⟩ = some (.int .u8 (n8 (F i))):=by
 obtain ⟨cs,h1,h2⟩:=h
 have h3:=qgb h2
 subst h3
 rw [h1.cell (by simpa using hi)]
 have:=qbp F hi
 rw [Array.getElem?_eq_getElem (by simpa using hi)] at this
 simpa using this
theorem RV.fro {w : World} {n : Nat} {T : TypeId} {φ : Value→Prop} (h : RV w n T φ) (i : Nat) : w.frozen? ⟨n,i,none⟩ = false:=by
 obtain ⟨cs,h1,h2⟩:=h
 exact h1.fro i
theorem RV.set {w : World} {n : Nat} {T : TypeId} {F : Nat→UInt8} (h : RV w n T (fun u=>u = .agg (qab F))) (i : Nat) (v : UInt8) : RV (w.setCell ⟨n,i,none⟩ (.int .u8 (n8 v))) n T (fun u=>u = .agg (qab (updb F i v))):=by
 obtain ⟨cs,h1,h2⟩:=h
 have h3:=qgb h2
 subst h3
 refine ⟨_,h1.set i _,?_⟩
 rw [← qem]
 congr 1
 apply Array.ext'
 simp
def encF (x y : F7) : Nat→UInt8:=updb (fb y) 31 (fb y 31 ||| fb x 0 <<< 7)
end Go.Cv
namespace Go.Proofs.YtgeihelkkhjjaaaGreatDoor
open Go.RowKit Go.Cv Go.Cv.Pr Go.Cv.Grp
theorem qfc {fn : Func} {p u : Tmp} (h : fn.results = #[.cell p 22,.tmp u]) (tmps : Array Value) {W : World} {n : Nat} {f : Nat→UInt8} (hR : RV W n 22 (fun u=>u = .agg (qab f)))
  (hp : tmps.getD p undef = .pointer (some ⟨n,0,none⟩)) : (results fn tmps).run Tryz.prog W = .ok (.tuple #[.agg (qab f),tmps.getD u undef]) W:=by
 obtain ⟨cs,h1,h2⟩:=hR
 have hl:=run_loadVar_row W n _ 22 cs.toArray (0,0) _ h1 u22 rfl (by rw [List.size_toArray,qgb h2];simpa using i22)
 rw [results_cell_tmp h,hp]
 simp only [asAddr,Sem.run_pure,Result.andThen_ok,hl]
 rw [show Value.agg (List.toArray cs) = Value.agg (qab f) from h2]
def qur : List Plan:=[⟨[],[]⟩,⟨[],[]⟩,⟨[],[]⟩]
def qus : List Plan:=[⟨[],[]⟩,⟨[0],[(11,0)]⟩,⟨[0,1],[(12,1)]⟩,⟨[],[]⟩,⟨[3],[(14,3)]⟩,⟨[0,1,2,3,4],[(15,4)]⟩,⟨[],[]⟩,⟨[],[]⟩,⟨[0,1,2,3,4,5,6,7],[(13,2),(4,6)]⟩,⟨[0,1,2,3,4,5,6,7,8],[(16,5),(5,7)]⟩]
def qut : List Plan:=[⟨[],[]⟩,⟨[0],[(24,0)]⟩,⟨[0,1],[]⟩]
theorem enc_on {f g : Nat→UInt8} (h : C7.on (tf (V f)) (tf (V g))) (w : World) :
  Calls Tryz.prog 45 #[.agg (pc f g)] w fun e w'=>e = .returned (.tuple #[.agg (qab (encF (tf (V f)) (tf (V g)))),.nilIface])∧Ext w w':=by
 go_enter Tryz.func45,Tryz.ntmps45
 have hx : Ext w w:=Ext.refl w
 go_upto_region 0 with fail
 have hok : TrsOk [] w.heap.size ([(tk (some 0) 0 49 (none) (fun u=>u = .agg (pc (f) (g))) (fun _=>True)),(tk (some 1) 0 22 (none) (sz 32) (fun _=>True))] : List Trk):=⟨by simp [tk],by simp [tk],by simp [tk],by simp [tk]⟩
 refine qac (Inv [] (fun j u=>match j with | 2=>u = .nilIface | _=>True) [(tk (some 0) 0 49 (none) (fun u=>u = .agg (pc (f) (g))) (fun _=>True)),(tk (some 1) 0 22 (none) (sz 32) (fun _=>True))] w) qur [(1,0),(2,1),(3,2)] 25 rfl (by kernel_rfl) (Inv.start0 hok (by simp)) ⟨?_,?_,?_,trivial⟩ ?_
 ·exact qa7 0 rfl rfl rfl rfl rfl hok fun L v w D I=>qba (pcL f g) rfl rfl ⟨trivial,rfl,_,rfl,rfl⟩
 ·exact qa7 1 rfl rfl rfl rfl rfl hok fun L v w D I=>al_B rfl fun c h=>⟨trivial,rfl,c,rfl,qa5 c h⟩
 ·exact sV fun L v w D N I=>⟨rfl,Ext.refl _⟩
 intro L v1 W1 hL hI
 obtain ⟨b,hb_b,lo_b,R_b⟩:=hI.made0 0 rfl (hL 0 (by decide))
 obtain ⟨r,hb_r,lo_r,R_r⟩:=hI.made0 1 rfl (hL 1 (by decide))
 have ne_b_r:=hI.two 0 1 rfl rfl rfl rfl rfl (hL 0 (by decide)) (hL 1 (by decide)) hb_b hb_r
 have bs_r:=Nat.le_trans hx.size lo_r
 have lt_r:=R_r.lt
 replace hx:=hx.trans hI.keep.to_ext
 have hs_3_0 : (v1 2) = .nilIface:=hI.val 2 (hL 2 (by decide))
 clear hI hL hok L
 simp only [putP,Act.put,zA,zB,zC,hb_b,hb_r,hs_3_0]
 go_upto_region 3 with (first | ((with_reducible refine qo1 R_b ?_ (.tmp 1) ?_ ?_ ?_);rfl;rfl;rfl) | (go_at_call 70;(with_reducible refine (qic h _).mono ?_);rintro e wq ⟨rfl,hxq⟩))
 replace R_b:=R_b.ext hxq
 replace R_r:=R_r.ext hxq
 replace lt_r:=Nat.lt_of_lt_of_le lt_r hxq.size
 replace hx:=hx.trans hxq
 have hok : TrsOk [] wq.heap.size ([(tk (some 6) 0 22 (some 8) (sz 32) (fun u=>u = .agg (qab (fb (tf (V (f))))))),(tk (some 7) 0 22 (some 9) (sz 32) (fun u=>u = .agg (qab (fb (tf (V (g)))))))] : List Trk):=⟨by simp [tk],by simp [tk],by simp [tk],by simp [tk]⟩
 refine qag (Inv [] (fun j u=>match j with | 0=>u = .pointer (some ⟨b,0,none⟩) | 1=>u = .agg (qab (f)) | 2=>u = .agg (qab (fb (tf (V (f))))) | 3=>u = .pointer (some ⟨b,32,none⟩) | 4=>u = .agg (qab (g)) | 5=>u = .agg (qab (fb (tf (V (g))))) | _=>True) [(tk (some 6) 0 22 (some 8) (sz 32) (fun u=>u = .agg (qab (fb (tf (V (f))))))),(tk (some 7) 0 22 (some 9) (sz 32) (fun u=>u = .agg (qab (fb (tf (V (g)))))))] wq) qus [(11,0),(12,1),(13,2),(14,3),(15,4),(16,5),(4,6),(5,7)] 25 (by kernel_rfl) rfl (by kernel_rfl) (Inv.start hok (by simp)) ⟨?_,?_,?_,?_,?_,?_,?_,?_,?_,?_,trivial⟩ ?_
 ·exact sV fun L v w D N I=>qal rfl rfl fPT0 ⟨rfl,Ext.refl _⟩
 ·exact sV fun L v w D N I=>qma (R_b.keep0 I.keep) _ rfl (I.val 0 (D 0 rfl)) ldK
 ·exact sV fun L v w D N I=>gfRed _ _ rfl rfl (qai (qaf (qjk (f) w)) (ar1 (I.val 1 (D 1 rfl))))
 ·exact sV fun L v w D N I=>qal rfl rfl fPT1 ⟨rfl,Ext.refl _⟩
 ·exact sV fun L v w D N I=>ql9 (R_b.keep0 I.keep) _ rfl (I.val 3 (D 3 rfl)) ldK
 ·exact sV fun L v w D N I=>gfRed _ _ rfl rfl (qai (qaf (qjk (g) w)) (ar1 (I.val 4 (D 4 rfl))))
 ·exact qa7 0 rfl rfl rfl rfl rfl hok fun L v w D I=>al_B rfl fun c h=>⟨trivial,rfl,c,rfl,qa5 c h⟩
 ·exact qa7 1 rfl rfl rfl rfl rfl hok fun L v w D I=>al_B rfl fun c h=>⟨trivial,rfl,c,rfl,qa5 c h⟩
 ·exact qcv 0 6 rfl rfl rfl rfl rfl rfl hok fun L v w D I n cs hb hR ho=>st_B hR (qaq ho) _ _ rfl hb (I.val 2 (D 2 rfl)) fun _ c a b k=>⟨trivial,k,c,a,b⟩
 ·exact qcv 1 7 rfl rfl rfl rfl rfl rfl hok fun L v w D I n cs hb hR ho=>st_B hR (qaq ho) _ _ rfl hb (I.val 5 (D 5 rfl)) fun _ c a b k=>⟨trivial,k,c,a,b⟩
 intro L v2 W2 hL hI
 obtain ⟨n4,hb_n4,lo_n4,R_n4⟩:=hI.made 0 rfl (hL 6 (by decide)) (hL 8 (by decide))
 obtain ⟨n5,hb_n5,lo_n5,R_n5⟩:=hI.made 1 rfl (hL 7 (by decide)) (hL 9 (by decide))
 have lt_b:=R_b.lt
 replace R_b:=R_b.keep0 hI.keep
 replace R_r:=R_r.keep0 hI.keep
 have ne_n4_n5:=hI.two 0 1 rfl rfl rfl rfl rfl (hL 6 (by decide)) (hL 7 (by decide)) hb_n4 hb_n5
 have ne_r_n4:=Nat.ne_of_lt (Nat.lt_of_lt_of_le lt_r lo_n4)
 have ne_b_n5:=Nat.ne_of_lt (Nat.lt_of_lt_of_le lt_b lo_n5)
 have ne_r_n5:=Nat.ne_of_lt (Nat.lt_of_lt_of_le lt_r lo_n5)
 replace lt_r:=ltk lt_r hI.keep.size
 have bs_n5:=Nat.le_trans hx.size lo_n5
 have lt_n5:=R_n5.lt
 replace hx:=hx.trans hI.keep.to_ext
 clear hI hL hok L
 simp only [putP,Act.put,zA,zB,zC,hb_n4,hb_n5]
 have e1:=R_n5.byte (i:=31) (by decide)
 have e2:=R_n4.byte (i:=0) (by decide)
 have e3:=R_n5.fro 31
 go_upto_region 5 with fail
 obtain ⟨W4,hW4⟩ : ∃ W4,W4 = W2.setCell ⟨n5,31,none⟩ (.int .u8 (n8 (fb (tf (V g)) 31 ||| fb (tf (V f)) 0 <<< 7))):=⟨_,rfl⟩
 rw [← hW4]
 have hk : Keep [n5] W2 W4:=by rw [hW4];exact Keep.setCell _ ⟨n5,31,none⟩ _
 have R5:=R_n5.set 31 (fb (tf (V g)) 31 ||| fb (tf (V f)) 0 <<< 7)
 rw [← hW4] at R5
 clear R_n5 R_n4 e1 e2 e3
 have R_n5 : RV W4 n5 22 (fun u=>u = .agg (qab (encF (tf (V f)) (tf (V g))))):=R5
 clear R5
 replace R_r:=R_r.keep hk (by simp [ne_r_n5,Ne.symm ne_r_n5])
 replace R_b:=R_b.keep hk (by simp [ne_b_n5,Ne.symm ne_b_n5])
 replace hx:=Ext.keep_ hx hk (by simpa using bs_n5)
 clear hW4
 replace lt_r:=Nat.lt_of_lt_of_le lt_r hk.size
 replace lt_n5:=Nat.lt_of_lt_of_le lt_n5 hk.size
 have hok : TrsOk [r] W4.heap.size ([(tk (none) r 22 (some 1) (sz 32) (fun u=>u = .agg (qab (encF (tf (V f)) (tf (V g))))))] : List Trk):=⟨by simp [tk,R_r.lt],by simp [tk],by simp [tk],by simp [tk]⟩
 refine qac (Inv [r] (fun j u=>match j with | 0=>u = .agg (qab (encF (tf (V f)) (tf (V g)))) | 2=>u = .nilIface | _=>True) [(tk (none) r 22 (some 1) (sz 32) (fun u=>u = .agg (qab (encF (tf (V f)) (tf (V g))))))] W4) qut [(24,0),(3,2)] 25 rfl (by kernel_rfl) (Inv.start0 hok (by
   simp only [zD,zE,zF,zG,zH]
   exact fun _=>R_r)) ⟨?_,?_,?_,trivial⟩ ?_
 ·exact sV fun L v w D N I=>ld_B (R_n5.keep1 I.keep (Ne.symm ne_r_n5)) _ rfl rfl ldK
 ·exact s_put 0 rfl rfl rfl rfl rfl hok fun L v w D I cs hR ho=>st_B hR (qaq ho) _ _ rfl rfl (I.val 0 (D 0 rfl)) fun _ c a b k=>⟨trivial,k,c,a,b⟩
 ·exact sV fun L v w D N I=>⟨rfl,Ext.refl _⟩
 intro L v3 W3 hL hI
 replace R_b:=R_b.keep1 hI.keep ne_b_r
 replace R_n5:=R_n5.keep1 hI.keep (Ne.symm ne_r_n5)
 replace R_r:=hI.new 0 rfl (hL 1 (by decide))
 replace lt_r:=ltk lt_r hI.keep.size
 replace lt_n5:=ltk lt_n5 hI.keep.size
 replace hx:=hx.keep1 hI.keep bs_r
 have hs_3_5 : (v3 2) = .nilIface:=hI.val 2 (hL 2 (by decide))
 clear hI hL hok L
 simp only [putP,Act.put,zA,zB,zC,hs_3_5]
 go_wp2
 refine bodyPost_ret (qfc rfl _ R_r rfl) rfl ?_
 refine ⟨?_,hx⟩
 rfl
end Go.Proofs.YtgeihelkkhjjaaaGreatDoor
end
