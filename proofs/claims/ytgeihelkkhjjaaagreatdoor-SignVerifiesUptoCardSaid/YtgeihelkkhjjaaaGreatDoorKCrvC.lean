/-
  Texts of the lemmas below the claim, put together: CrvC CrvD.
-/
import Derived.Test.YtgeihelkkhjjaaaGreatDoorKStp
set_option linter.unusedSimpArgs false
set_option linter.unusedVariables false
set_option maxRecDepth 20000
set_option maxHeartbeats 8000000
section
namespace Go.Cv
open Go.RowKit Go.Cv.Pr Go.Cv.Grp
def RL (w : World) (n : Nat) (T : TypeId) (k : Nat) : Prop:=∃ cs,Row w n T cs∧cs.length = k
theorem RL.keep {bs : List Nat} {w w' : World} {n : Nat} {T : TypeId} {k : Nat} (h : RL w n T k) (hk : Keep bs w w') (hb : n ∉ bs) : RL w' n T k:=by
 obtain ⟨cs,h1,h2⟩:=h
 exact ⟨cs,h1.keep hk hb,h2⟩
theorem RL.ext {w w' : World} {n : Nat} {T : TypeId} {k : Nat} (h : RL w n T k) (hx : Ext w w') : RL w' n T k:=by
 obtain ⟨cs,h1,h2⟩:=h
 exact ⟨cs,h1.ext hx,h2⟩
theorem RL.lt {w : World} {n : Nat} {T : TypeId} {k : Nat} (h : RL w n T k) : n < w.heap.size:=by
 obtain ⟨cs,h1,h2⟩:=h
 exact h1.lt
end Go.Cv
namespace Go.Proofs.YtgeihelkkhjjaaaGreatDoor
open Go.RowKit Go.Cv Go.Cv.Pr Go.Cv.Grp
theorem d_any (w : World) : Calls Tryz.prog 87 #[] w fun e w'=>∃ r,e = .returned r∧isE r C7.d∧Ext w w':=by
 go_enter Tryz.func87,Tryz.ntmps87
 go_wp2
 refine bodyPost_ret_by (by simp [results,Tryz.results87,go_sem];rfl) rfl ?_
 exact ⟨_,rfl,⟨8496970652267935907,31536524315187371,10144147576115030168,5909686906226998899,rfl,rfl⟩,qaa _ _⟩
theorem twice_tf : tf (val4 16993941304535871833 63073048630374742 1841551078520508720 2596001775599221991) = C7.d + C7.d:=by
 have h : Eqp (val4 16993941304535871833 63073048630374742 1841551078520508720 2596001775599221991) (dN + dN):=by decide +kernel
 rw [h.tf,qdo];rfl
theorem qo6 (w : World) : Calls Tryz.prog 98 #[] w fun e w'=>∃ r,e = .returned r∧isE r (C7.d + C7.d)∧Ext w w':=by
 go_enter Tryz.func98,Tryz.ntmps98
 go_wp2
 refine bodyPost_ret_by (by simp [results,Tryz.results98,go_sem];rfl) rfl ?_
 exact ⟨_,rfl,⟨16993941304535871833,63073048630374742,1841551078520508720,2596001775599221991,rfl,twice_tf⟩,qaa _ _⟩
theorem qp3 : pc (fun _=>0) (fun _=>0) = (List.replicate 64 (Value.int .u8 0)).toArray:=by
 unfold pc pcL
 rw [qga]
 rfl
theorem qgq : ∀ (l : List Value) (s off : Nat) (cells : Array Value),(l.zipIdx s).foldl (fun cs (x : Value × Nat)=>cs.setIfInBounds (off + x.2) x.1) cells = (cells.toList.take (off + s) ++ (l.take (cells.size - (off + s)) ++ cells.toList.drop (off + s + l.length))).toArray
 | [],s,off,cells=>by
  apply Array.ext'
  simp
 | x :: l,s,off,cells=>by
  rw [List.zipIdx_cons,List.foldl_cons,qgq l (s + 1) off]
  apply Array.ext_getElem?
  intro i
  simp only [Array.toList_setIfInBounds,Array.size_setIfInBounds,List.getElem?_toArray,List.getElem?_append,List.length_take,List.length_set,Array.length_toList,List.getElem?_take,List.getElem?_drop,List.getElem?_set,List.length_cons,List.getElem?_cons]
  grind
theorem zero43 : (Tryz.prog.info? 49).map (fun i=>(i.zero.map (·.cells.size))) = some (some 64):=by kernel_rfl
theorem qrr (c1 c2 z : Array Value) (h1 : c1.size = 32) (h2 : c2.size = 32) (hz : z.size = 64) (pl : Nat→Option (Nat × Nat)) (p0 : pl 0 = some (0,32)) (p1 : pl 1 = some (32,32)) : Instr.fill pl z [(0,.agg c1),(1,.agg c2)] = some (c1 ++ c2):=by
 have f1 : c1.zipIdx.foldl (fun cs (x : Value × Nat)=>cs.setIfInBounds (0 + x.2) x.1) z = (c1.toList ++ z.toList.drop 32).toArray:=by
  have:=qgq c1.toList 0 0 z
  rw [← Array.toList_zipIdx] at this
  rw [← Array.foldl_toList,this]
  congr 1
  simp [h1,hz]
  rw [List.take_of_length_le (by simp [h1])]
 have f2 : c2.zipIdx.foldl (fun cs (x : Value × Nat)=>cs.setIfInBounds (32 + x.2) x.1) ((c1.toList ++ z.toList.drop 32).toArray) = c1 ++ c2:=by
  have:=qgq c2.toList 0 32 ((c1.toList ++ z.toList.drop 32).toArray)
  rw [← Array.toList_zipIdx] at this
  rw [← Array.foldl_toList,this]
  apply Array.ext'
  simp [h1,h2,hz]
  rw [List.take_of_length_le (by simp [h2]),List.drop_of_length_le (by simp [h1,hz])]
  simp
 unfold Instr.fill
 rw [p0]
 simp only [Value.cells,h1,hz]
 simp only [ne_eq,not_true,decide_false,Bool.false_or,decide_eq_true_eq]
 rw [if_neg (by decide)]
 have g1 : (Array.foldl (fun cs x=>match x with | (c,j)=>cs.setIfInBounds (0 + j) c) z c1.zipIdx) = (c1.toList ++ z.toList.drop 32).toArray:=f1
 rw [g1]
 unfold Instr.fill
 rw [p1]
 simp only [Value.cells,h2]
 simp only [ne_eq,not_true,decide_false,Bool.false_or,decide_eq_true_eq]
 rw [if_neg (by simp [h1,hz])]
 have g2 : (Array.foldl (fun cs x=>match x with | (c,j)=>cs.setIfInBounds (32 + j) c) ((c1.toList ++ z.toList.drop 32).toArray) c2.zipIdx) = c1 ++ c2:=f2
 rw [g2]
 unfold Instr.fill
 rfl
theorem places43 : (Tryz.prog.underlying 49).map (fun d=>match d with | .struct fields=>(fields.toList.mapM (fun f=>(Tryz.prog.info? f.type).map fun i=>(f.offset,i.size))) | _=>none) = some (some [(0,32),(32,32)]):=by kernel_rfl
theorem built_P (c1 c2 : Array Value) (h1 : c1.size = 32) (h2 : c2.size = 32) (w : World) : (Instr.build 49 #[(0,.agg c1),(1,.agg c2)]).run Tryz.prog w = .ok (.agg (c1 ++ c2)) w:=by
 refine run_build w _ _ _ ?_
 unfold Program.built
 have hz:=zero43
 have hp:=places43
 cases hi : Tryz.prog.info? 49 with
 | none=>rw [hi] at hz;cases hz
 | some it =>
  rw [hi] at hz
  simp only [Option.map_some,Option.some.injEq] at hz
  cases hu : Tryz.prog.underlying 49 with
  | none=>rw [hu] at hp;cases hp
  | some d =>
   rw [hu] at hp
   simp only [Option.map_some,Option.some.injEq] at hp
   cases d with
   | struct fields =>
    simp only at hp ⊢
    cases hzz : it.zero with
    | none=>rw [hzz] at hz;cases hz
    | some z =>
     rw [hzz] at hz
     simp only [Option.map_some,Option.some.injEq] at hz
     rw [hp]
     exact qrr c1 c2 z.cells h1 h2 hz _ rfl rfl
   | _=>cases hp
theorem bd_P {w : World} {o : Oper} {ev : Operand→Value} {R : Value→World→Prop} {f g : Nat→UInt8} (p q : Operand) (ho : o.op = .build 49 #[(0,p),(1,q)]) (hp : ev p = .agg (qab f)) (hq : ev q = .agg (qab g)) (h : ∀ u,u = .agg (pc f g)→R u w) :
  qak Tryz.prog R ((execOp ev o).run Tryz.prog w):=by
 unfold execOp
 simp only [ho,List.map_toArray,List.map_cons,List.map_nil,hp,hq,Sem.run_bind,Sem.run_pure,built_P _ _ (qam f) (qam g),Result.andThen_ok]
 exact h _ (by rw [qip])
def isP (u : Value) (P : P7) : Prop:=∃ X Y Z T,isW u X Y Z T∧Rep X Y Z T P
def qs3 : List Plan:=[⟨[],[]⟩,⟨[],[]⟩]
def qs4 : List Plan:=[⟨[],[]⟩,⟨[0],[(5,0)]⟩,⟨[0,1],[(6,1)]⟩,⟨[],[]⟩,⟨[3],[(8,3)]⟩,⟨[0,1,2,3,4],[(9,4)]⟩,⟨[],[]⟩,⟨[],[]⟩,⟨[0,1,2,3,4,5,6,7],[(7,2),(3,6)]⟩,⟨[0,1,2,3,4,5,6,7,8],[(10,5),(4,7)]⟩]
def qs5 : List Plan:=[⟨[],[]⟩,⟨[],[]⟩,⟨[0,1],[(11,0),(12,1)]⟩,⟨[],[]⟩,⟨[],[]⟩,⟨[0,1,2,3,4],[(14,3),(15,4)]⟩,⟨[0,1,2,3,4,5],[(13,2)]⟩,⟨[0,1,2,3,4,5,6],[(16,5)]⟩]
def qs6 : List Plan:=[⟨[],[]⟩,⟨[],[]⟩,⟨[0,1],[(17,0),(18,1)]⟩,⟨[0,1,2],[(19,2)]⟩,⟨[],[]⟩,⟨[0,1,2,3],[]⟩,⟨[],[]⟩,⟨[0,1,2,3,5,6],[(22,5),(23,6)]⟩,⟨[],[]⟩,⟨[0,1,2,3,5,6,7,8],[(24,7),(25,8)]⟩,⟨[0,1,2,3,4,5,6,7,8,9],[(21,4),(26,9)]⟩,⟨[0,1,2,3,4,5,6,7,8,9,10],[(27,10)]⟩,⟨[0,1,2,3,4,5,6,7,8,9,10,11],[(20,3),(28,11)]⟩,⟨[0,1,2,3,4,5,6,7,8,9,10,11,12],[(29,12)]⟩]
theorem is_any (f g : Nat→UInt8) (w : World) :
  Calls Tryz.prog 70 #[.agg (pc f g)] w fun e w'=>e = .returned (.bool (decide (tf (V g) * tf (V g) - tf (V f) * tf (V f) = 1 + C7.d * (tf (V f) * tf (V f)) * (tf (V g) * tf (V g)))))∧Ext w w':=by
 go_enter Tryz.func70,Tryz.ntmps70
 have hx : Ext w w:=Ext.refl w
 go_upto_region 0 with fail
 have hok : TrsOk [] w.heap.size ([(tk (some 0) 0 49 (none) (fun u=>u = .agg (pc (f) (g))) (fun _=>True))] : List Trk):=⟨by simp [tk],by simp [tk],by simp [tk],by simp [tk]⟩
 refine qac (Inv [] (fun j u=>match j with | 1=>u = .bool false | _=>True) [(tk (some 0) 0 49 (none) (fun u=>u = .agg (pc (f) (g))) (fun _=>True))] w) qs3 [(1,0),(2,1)] 30 rfl (by kernel_rfl) (Inv.start0 hok (by simp)) ⟨?_,?_,trivial⟩ ?_
 ·exact qa7 0 rfl rfl rfl rfl rfl hok fun L v w D I=>qba (pcL f g) rfl rfl ⟨trivial,rfl,_,rfl,rfl⟩
 ·exact sV fun L v w D N I=>⟨rfl,Ext.refl _⟩
 intro L v1 W1 hL hI
 obtain ⟨b,hb_b,lo_b,R_b⟩:=hI.made0 0 rfl (hL 0 (by decide))
 replace hx:=hx.trans hI.keep.to_ext
 have hs_2_0 : (v1 1) = .bool false:=hI.val 1 (hL 1 (by decide))
 clear hI hL hok L
 simp only [putP,Act.put,zA,zB,zC,hb_b,hs_2_0]
 go_upto_region 1 with fail
 have hok : TrsOk [] W1.heap.size ([(tk (some 6) 0 101 (some 8) (sz 4) (fun u=>isE u (tf (V (f))))),(tk (some 7) 0 101 (some 9) (sz 4) (fun u=>isE u (tf (V (g)))))] : List Trk):=⟨by simp [tk],by simp [tk],by simp [tk],by simp [tk]⟩
 refine qag (Inv [] (fun j u=>match j with | 0=>u = .pointer (some ⟨b,0,none⟩) | 1=>u = .agg (qab (f)) | 2=>isE u (tf (V (f))) | 3=>u = .pointer (some ⟨b,32,none⟩) | 4=>u = .agg (qab (g)) | 5=>isE u (tf (V (g))) | _=>True) [(tk (some 6) 0 101 (some 8) (sz 4) (fun u=>isE u (tf (V (f))))),(tk (some 7) 0 101 (some 9) (sz 4) (fun u=>isE u (tf (V (g)))))] W1) qs4 [(5,0),(6,1),(7,2),(8,3),(9,4),(10,5),(3,6),(4,7)] 30 (by kernel_rfl) rfl (by kernel_rfl) (Inv.start hok (by simp)) ⟨?_,?_,?_,?_,?_,?_,?_,?_,?_,?_,trivial⟩ ?_
 ·exact sV fun L v w D N I=>qal rfl rfl fPT0 ⟨rfl,Ext.refl _⟩
 ·exact sV fun L v w D N I=>qma (R_b.keep0 I.keep) _ rfl (I.val 0 (D 0 rfl)) ldK
 ·exact sV fun L v w D N I=>gEIn _ _ rfl rfl (qai (ein (f) w) (ar1 (I.val 1 (D 1 rfl))))
 ·exact sV fun L v w D N I=>qal rfl rfl fPT1 ⟨rfl,Ext.refl _⟩
 ·exact sV fun L v w D N I=>ql9 (R_b.keep0 I.keep) _ rfl (I.val 3 (D 3 rfl)) ldK
 ·exact sV fun L v w D N I=>gEIn _ _ rfl rfl (qai (ein (g) w) (ar1 (I.val 4 (D 4 rfl))))
 ·exact qa7 0 rfl rfl rfl rfl rfl hok fun L v w D I=>al_E rfl fun c h=>⟨trivial,rfl,c,rfl,qa5 c h⟩
 ·exact qa7 1 rfl rfl rfl rfl rfl hok fun L v w D I=>al_E rfl fun c h=>⟨trivial,rfl,c,rfl,qa5 c h⟩
 ·exact qcv 0 6 rfl rfl rfl rfl rfl rfl hok fun L v w D I n cs hb hR ho=>st_E hR (qaq ho) _ _ rfl hb (I.val 2 (D 2 rfl)) fun _ c a b k=>⟨trivial,k,c,a,b⟩
 ·exact qcv 1 7 rfl rfl rfl rfl rfl rfl hok fun L v w D I n cs hb hR ho=>st_E hR (qaq ho) _ _ rfl hb (I.val 5 (D 5 rfl)) fun _ c a b k=>⟨trivial,k,c,a,b⟩
 intro L v2 W2 hL hI
 obtain ⟨n3,hb_n3,lo_n3,R_n3⟩:=hI.made 0 rfl (hL 6 (by decide)) (hL 8 (by decide))
 obtain ⟨n4,hb_n4,lo_n4,R_n4⟩:=hI.made 1 rfl (hL 7 (by decide)) (hL 9 (by decide))
 have lt_b:=R_b.lt
 replace R_b:=R_b.keep0 hI.keep
 have ne_n3_n4:=hI.two 0 1 rfl rfl rfl rfl rfl (hL 6 (by decide)) (hL 7 (by decide)) hb_n3 hb_n4
 have ne_b_n3:=Nat.ne_of_lt (Nat.lt_of_lt_of_le lt_b lo_n3)
 have ne_b_n4:=Nat.ne_of_lt (Nat.lt_of_lt_of_le lt_b lo_n4)
 have bs_n3:=Nat.le_trans hx.size lo_n3
 have lt_n3:=R_n3.lt
 have bs_n4:=Nat.le_trans hx.size lo_n4
 have lt_n4:=R_n4.lt
 replace hx:=hx.trans hI.keep.to_ext
 clear hI hL hok L
 simp only [putP,Act.put,zA,zB,zC,hb_n3,hb_n4]
 go_upto_region 2 with fail
 have hok : TrsOk [n3,n4] W2.heap.size ([(tk (none) n3 101 (some 6) (fun u=>isE u (tf (V (f)))) (fun u=>isE u ((tf (V (f))) * (tf (V (f)))))),(tk (none) n4 101 (some 7) (fun u=>isE u (tf (V (g)))) (fun u=>isE u ((tf (V (g))) * (tf (V (g))))))] : List Trk):=⟨by simp [tk,R_n3.lt,R_n4.lt],by simp [tk,ne_n3_n4,Ne.symm ne_n3_n4],by simp [tk],by simp [tk]⟩
 refine qag (Inv [n3,n4] (fun j u=>match j with | 0=>isE u (tf (V (f))) | 1=>isE u (tf (V (f))) | 2=>isE u ((tf (V (f))) * (tf (V (f)))) | 3=>isE u (tf (V (g))) | 4=>isE u (tf (V (g))) | 5=>isE u ((tf (V (g))) * (tf (V (g)))) | _=>True) [(tk (none) n3 101 (some 6) (fun u=>isE u (tf (V (f)))) (fun u=>isE u ((tf (V (f))) * (tf (V (f)))))),(tk (none) n4 101 (some 7) (fun u=>isE u (tf (V (g)))) (fun u=>isE u ((tf (V (g))) * (tf (V (g))))))] W2) qs5 [(11,0),(12,1),(13,2),(14,3),(15,4),(16,5)] 30 (by kernel_rfl) rfl (by kernel_rfl) (Inv.start hok (by
   simp only [zD,zE,zF,zG,zH]
   refine ⟨fun _=>R_n3,fun _=>R_n4⟩)) ⟨?_,?_,?_,?_,?_,?_,?_,?_,trivial⟩ ?_
 ·exact sV fun L v w D N I=>ld_E (I.old 0 rfl (N 6 rfl)) _ rfl rfl ldK
 ·exact sV fun L v w D N I=>ld_E (I.old 0 rfl (N 6 rfl)) _ rfl rfl ldK
 ·exact sV fun L v w D N I=>gMul _ _ rfl rfl (emul (I.val 0 (D 0 rfl)) (I.val 1 (D 1 rfl)) w)
 ·exact sV fun L v w D N I=>ld_E (I.old 1 rfl (N 7 rfl)) _ rfl rfl ldK
 ·exact sV fun L v w D N I=>ld_E (I.old 1 rfl (N 7 rfl)) _ rfl rfl ldK
 ·exact sV fun L v w D N I=>gMul _ _ rfl rfl (emul (I.val 3 (D 3 rfl)) (I.val 4 (D 4 rfl)) w)
 ·exact s_put 0 rfl rfl rfl rfl rfl hok fun L v w D I cs hR ho=>st_E hR (qid ho) _ _ rfl rfl (I.val 2 (D 2 rfl)) fun _ c a b k=>⟨trivial,k,c,a,b⟩
 ·exact s_put 1 rfl rfl rfl rfl rfl hok fun L v w D I cs hR ho=>st_E hR (qid ho) _ _ rfl rfl (I.val 5 (D 5 rfl)) fun _ c a b k=>⟨trivial,k,c,a,b⟩
 intro L v3 W3 hL hI
 replace R_b:=R_b.keep hI.keep (by simp [ne_b_n3,Ne.symm ne_b_n3,ne_b_n4,Ne.symm ne_b_n4])
 replace R_n3:=hI.new 0 rfl (hL 6 (by decide))
 replace R_n4:=hI.new 1 rfl (hL 7 (by decide))
 replace lt_n3:=ltk lt_n3 hI.keep.size
 replace lt_n4:=ltk lt_n4 hI.keep.size
 replace hx:=hx.keep_ hI.keep (by simp only [zD,zE,zF,zG,zH];exact ⟨bs_n3,bs_n4⟩)
 clear hI hL hok L
 simp only [putP,Act.put,zA,zB,zC]
 go_upto_region 3 with fail
 have hok : TrsOk [] W3.heap.size ([] : List Trk):=⟨by simp [tk],by simp [tk],by simp [tk],by simp [tk]⟩
 refine qag (Inv [] (fun j u=>match j with | 0=>isE u ((tf (V (g))) * (tf (V (g)))) | 1=>isE u ((tf (V (f))) * (tf (V (f)))) | 2=>isE u (((tf (V (g))) * (tf (V (g)))) - ((tf (V (f))) * (tf (V (f))))) | 3=>u = .agg (qab (fb (((tf (V (g))) * (tf (V (g)))) - ((tf (V (f))) * (tf (V (f))))))) | 4=>isE u (1) | 5=>isE u (C7.d) | 6=>isE u ((tf (V (f))) * (tf (V (f)))) | 7=>isE u ((C7.d) * ((tf (V (f))) * (tf (V (f))))) | 8=>isE u ((tf (V (g))) * (tf (V (g)))) | 9=>isE u (((C7.d) * ((tf (V (f))) * (tf (V (f))))) * ((tf (V (g))) * (tf (V (g))))) | 10=>isE u ((1) + (((C7.d) * ((tf (V (f))) * (tf (V (f))))) * ((tf (V (g))) * (tf (V (g)))))) | 11=>u = .agg (qab (fb ((1) + (((C7.d) * ((tf (V (f))) * (tf (V (f))))) * ((tf (V (g))) * (tf (V (g)))))))) | 12=>u = .bool (beqb (fb (((tf (V (g))) * (tf (V (g)))) - ((tf (V (f))) * (tf (V (f)))))) (fb ((1) + (((C7.d) * ((tf (V (f))) * (tf (V (f))))) * ((tf (V (g))) * (tf (V (g)))))))) | 13=>u = .bool (beqb (fb (((tf (V (g))) * (tf (V (g)))) - ((tf (V (f))) * (tf (V (f)))))) (fb ((1) + (((C7.d) * ((tf (V (f))) * (tf (V (f))))) * ((tf (V (g))) * (tf (V (g)))))))) | _=>True) [] W3) qs6 [(17,0),(18,1),(19,2),(20,3),(21,4),(22,5),(23,6),(24,7),(25,8),(26,9),(27,10),(28,11),(29,12),(2,13)] 30 (by kernel_rfl) rfl (by kernel_rfl) (Inv.start hok (by simp)) ⟨?_,?_,?_,?_,?_,?_,?_,?_,?_,?_,?_,?_,?_,?_,trivial⟩ ?_
 ·exact sV fun L v w D N I=>ld_E (R_n4.keep0 I.keep) _ rfl rfl ldK
 ·exact sV fun L v w D N I=>ld_E (R_n3.keep0 I.keep) _ rfl rfl ldK
 ·exact sV fun L v w D N I=>gSub _ _ rfl rfl (esub (I.val 0 (D 0 rfl)) (I.val 1 (D 1 rfl)) w)
 ·exact sV fun L v w D N I=>gOut _ _ rfl rfl (qaf (eout (I.val 2 (D 2 rfl)) w))
 ·exact sV fun L v w D N I=>qow rfl rfl ldK
 ·exact sV fun L v w D N I=>gD _ _ rfl rfl (d_any w)
 ·exact sV fun L v w D N I=>ld_E (R_n3.keep0 I.keep) _ rfl rfl ldK
 ·exact sV fun L v w D N I=>gMul _ _ rfl rfl (emul (I.val 5 (D 5 rfl)) (I.val 6 (D 6 rfl)) w)
 ·exact sV fun L v w D N I=>ld_E (R_n4.keep0 I.keep) _ rfl rfl ldK
 ·exact sV fun L v w D N I=>gMul _ _ rfl rfl (emul (I.val 7 (D 7 rfl)) (I.val 8 (D 8 rfl)) w)
 ·exact sV fun L v w D N I=>gAdd _ _ rfl rfl (eadd (I.val 4 (D 4 rfl)) (I.val 9 (D 9 rfl)) w)
 ·exact sV fun L v w D N I=>gOut _ _ rfl rfl (qaf (eout (I.val 10 (D 10 rfl)) w))
 ·exact sV fun L v w D N I=>g_eqB _ _ _ rfl (I.val 3 (D 3 rfl)) (I.val 11 (D 11 rfl)) ⟨rfl,Ext.refl _⟩
 ·exact sV fun L v w D N I=>⟨(I.val 12 (D 12 rfl)),Ext.refl _⟩
 intro L v4 W4 hL hI
 replace R_b:=R_b.keep0 hI.keep
 replace R_n3:=R_n3.keep0 hI.keep
 replace R_n4:=R_n4.keep0 hI.keep
 replace lt_n3:=ltk lt_n3 hI.keep.size
 replace lt_n4:=ltk lt_n4 hI.keep.size
 replace hx:=hx.trans hI.keep.to_ext
 have hs_2_3 : (v4 13) = .bool (beqb (fb (((tf (V (g))) * (tf (V (g)))) - ((tf (V (f))) * (tf (V (f)))))) (fb ((1) + (((C7.d) * ((tf (V (f))) * (tf (V (f))))) * ((tf (V (g))) * (tf (V (g)))))))):=hI.val 13 (hL 13 (by decide))
 clear hI hL hok L
 simp only [putP,Act.put,zA,zB,zC,hs_2_3]
 go_wp2
 go_ret
 refine ⟨?_,hx⟩
 rw [qmi]
 rfl
def qvc : List Plan:=[⟨[],[]⟩,⟨[],[]⟩]
def qvd : List Plan:=[⟨[],[]⟩,⟨[0],[(5,0)]⟩,⟨[0,1],[(6,1)]⟩,⟨[],[]⟩,⟨[3],[(8,3)]⟩,⟨[0,1,2,3,4],[(9,4)]⟩,⟨[],[]⟩,⟨[],[]⟩,⟨[0,1,2,3,4,5,6,7],[(7,2),(3,6)]⟩,⟨[0,1,2,3,4,5,6,7,8],[(10,5),(4,7)]⟩]
def qve : List Plan:=[⟨[],[]⟩,⟨[],[]⟩,⟨[0,1],[(11,0),(12,1)]⟩,⟨[],[]⟩,⟨[],[]⟩,⟨[],[]⟩,⟨[4,5],[(15,4),(16,5)]⟩,⟨[0,1,2,3,4,5,6],[(13,2),(14,3),(17,6)]⟩,⟨[0,1,2,3,4,5,6,7],[(18,7)]⟩]
theorem cin_any (f g : Nat→UInt8) (w : World) :
  Calls Tryz.prog 73 #[.agg (pc f g)] w fun e w'=>∃ r,e = .returned r∧isW r (tf (V f)) (tf (V g)) 1 (tf (V f) * tf (V g))∧Ext w w':=by
 go_enter Tryz.func73,Tryz.ntmps73
 have hx : Ext w w:=Ext.refl w
 go_upto_region 0 with fail
 have hok : TrsOk [] w.heap.size ([(tk (some 0) 0 49 (none) (fun u=>u = .agg (pc (f) (g))) (fun _=>True)),(tk (some 1) 0 105 (none) (sz 16) (fun _=>True))] : List Trk):=⟨by simp [tk],by simp [tk],by simp [tk],by simp [tk]⟩
 refine qac (Inv [] (fun _ _=>True) [(tk (some 0) 0 49 (none) (fun u=>u = .agg (pc (f) (g))) (fun _=>True)),(tk (some 1) 0 105 (none) (sz 16) (fun _=>True))] w) qvc [(1,0),(2,1)] 19 rfl (by kernel_rfl) (Inv.start0 hok (by simp)) ⟨?_,?_,trivial⟩ ?_
 ·exact qa7 0 rfl rfl rfl rfl rfl hok fun L v w D I=>qba (pcL f g) rfl rfl ⟨trivial,rfl,_,rfl,rfl⟩
 ·exact qa7 1 rfl rfl rfl rfl rfl hok fun L v w D I=>al_W rfl fun c h=>⟨trivial,rfl,c,rfl,qa5 c h⟩
 intro L v1 W1 hL hI
 obtain ⟨b,hb_b,lo_b,R_b⟩:=hI.made0 0 rfl (hL 0 (by decide))
 obtain ⟨r,hb_r,lo_r,R_r⟩:=hI.made0 1 rfl (hL 1 (by decide))
 have ne_b_r:=hI.two 0 1 rfl rfl rfl rfl rfl (hL 0 (by decide)) (hL 1 (by decide)) hb_b hb_r
 have bs_r:=Nat.le_trans hx.size lo_r
 have lt_r:=R_r.lt
 replace hx:=hx.trans hI.keep.to_ext
 clear hI hL hok L
 simp only [putP,Act.put,zA,zB,zC,hb_b,hb_r]
 go_upto_region 1 with fail
 have hok : TrsOk [] W1.heap.size ([(tk (some 6) 0 101 (some 8) (sz 4) (fun u=>isE u (tf (V (f))))),(tk (some 7) 0 101 (some 9) (sz 4) (fun u=>isE u (tf (V (g)))))] : List Trk):=⟨by simp [tk],by simp [tk],by simp [tk],by simp [tk]⟩
 refine qag (Inv [] (fun j u=>match j with | 0=>u = .pointer (some ⟨b,0,none⟩) | 1=>u = .agg (qab (f)) | 2=>isE u (tf (V (f))) | 3=>u = .pointer (some ⟨b,32,none⟩) | 4=>u = .agg (qab (g)) | 5=>isE u (tf (V (g))) | _=>True) [(tk (some 6) 0 101 (some 8) (sz 4) (fun u=>isE u (tf (V (f))))),(tk (some 7) 0 101 (some 9) (sz 4) (fun u=>isE u (tf (V (g)))))] W1) qvd [(5,0),(6,1),(7,2),(8,3),(9,4),(10,5),(3,6),(4,7)] 19 (by kernel_rfl) rfl (by kernel_rfl) (Inv.start hok (by simp)) ⟨?_,?_,?_,?_,?_,?_,?_,?_,?_,?_,trivial⟩ ?_
 ·exact sV fun L v w D N I=>qal rfl rfl fPT0 ⟨rfl,Ext.refl _⟩
 ·exact sV fun L v w D N I=>qma (R_b.keep0 I.keep) _ rfl (I.val 0 (D 0 rfl)) ldK
 ·exact sV fun L v w D N I=>gEIn _ _ rfl rfl (qai (ein (f) w) (ar1 (I.val 1 (D 1 rfl))))
 ·exact sV fun L v w D N I=>qal rfl rfl fPT1 ⟨rfl,Ext.refl _⟩
 ·exact sV fun L v w D N I=>ql9 (R_b.keep0 I.keep) _ rfl (I.val 3 (D 3 rfl)) ldK
 ·exact sV fun L v w D N I=>gEIn _ _ rfl rfl (qai (ein (g) w) (ar1 (I.val 4 (D 4 rfl))))
 ·exact qa7 0 rfl rfl rfl rfl rfl hok fun L v w D I=>al_E rfl fun c h=>⟨trivial,rfl,c,rfl,qa5 c h⟩
 ·exact qa7 1 rfl rfl rfl rfl rfl hok fun L v w D I=>al_E rfl fun c h=>⟨trivial,rfl,c,rfl,qa5 c h⟩
 ·exact qcv 0 6 rfl rfl rfl rfl rfl rfl hok fun L v w D I n cs hb hR ho=>st_E hR (qaq ho) _ _ rfl hb (I.val 2 (D 2 rfl)) fun _ c a b k=>⟨trivial,k,c,a,b⟩
 ·exact qcv 1 7 rfl rfl rfl rfl rfl rfl hok fun L v w D I n cs hb hR ho=>st_E hR (qaq ho) _ _ rfl hb (I.val 5 (D 5 rfl)) fun _ c a b k=>⟨trivial,k,c,a,b⟩
 intro L v2 W2 hL hI
 obtain ⟨n3,hb_n3,lo_n3,R_n3⟩:=hI.made 0 rfl (hL 6 (by decide)) (hL 8 (by decide))
 obtain ⟨n4,hb_n4,lo_n4,R_n4⟩:=hI.made 1 rfl (hL 7 (by decide)) (hL 9 (by decide))
 replace R_b:=R_b.keep0 hI.keep
 replace R_r:=R_r.keep0 hI.keep
 have ne_r_n3:=Nat.ne_of_lt (Nat.lt_of_lt_of_le lt_r lo_n3)
 have ne_r_n4:=Nat.ne_of_lt (Nat.lt_of_lt_of_le lt_r lo_n4)
 replace lt_r:=ltk lt_r hI.keep.size
 replace hx:=hx.trans hI.keep.to_ext
 clear hI hL hok L
 simp only [putP,Act.put,zA,zB,zC,hb_n3,hb_n4]
 go_upto_region 2 with fail
 have hok : TrsOk [r] W2.heap.size ([(tk (none) r 105 (some 8) (sz 16) (fun u=>isW u (tf (V (f))) (tf (V (g))) (1) ((tf (V (f))) * (tf (V (g))))))] : List Trk):=⟨by simp [tk,R_r.lt],by simp [tk],by simp [tk],by simp [tk]⟩
 refine qag (Inv [r] (fun j u=>match j with | 0=>isE u (tf (V (f))) | 1=>isE u (tf (V (g))) | 2=>isFl u (tf (V (f))) (tf (V (g))) | 3=>isE u (1) | 4=>isE u (tf (V (f))) | 5=>isE u (tf (V (g))) | 6=>isE u ((tf (V (f))) * (tf (V (g)))) | 7=>isW u (tf (V (f))) (tf (V (g))) (1) ((tf (V (f))) * (tf (V (g)))) | _=>True) [(tk (none) r 105 (some 8) (sz 16) (fun u=>isW u (tf (V (f))) (tf (V (g))) (1) ((tf (V (f))) * (tf (V (g))))))] W2) qve [(11,0),(12,1),(13,2),(14,3),(15,4),(16,5),(17,6),(18,7)] 19 (by kernel_rfl) rfl (by kernel_rfl) (Inv.start hok (by
   simp only [zD,zE,zF,zG,zH]
   exact fun _=>R_r)) ⟨?_,?_,?_,?_,?_,?_,?_,?_,?_,trivial⟩ ?_
 ·exact sV fun L v w D N I=>ld_E (R_n3.keep1 I.keep (Ne.symm ne_r_n3)) _ rfl rfl ldK
 ·exact sV fun L v w D N I=>ld_E (R_n4.keep1 I.keep (Ne.symm ne_r_n4)) _ rfl rfl ldK
 ·exact sV fun L v w D N I=>bd_FL _ _ rfl (I.val 0 (D 0 rfl)) (I.val 1 (D 1 rfl)) ldK
 ·exact sV fun L v w D N I=>qow rfl rfl ldK
 ·exact sV fun L v w D N I=>ld_E (R_n3.keep1 I.keep (Ne.symm ne_r_n3)) _ rfl rfl ldK
 ·exact sV fun L v w D N I=>ld_E (R_n4.keep1 I.keep (Ne.symm ne_r_n4)) _ rfl rfl ldK
 ·exact sV fun L v w D N I=>gMul _ _ rfl rfl (emul (I.val 4 (D 4 rfl)) (I.val 5 (D 5 rfl)) w)
 ·exact sV fun L v w D N I=>bd_W _ _ _ rfl (I.val 2 (D 2 rfl)) (I.val 3 (D 3 rfl)) (I.val 6 (D 6 rfl)) ldK
 ·exact s_put 0 rfl rfl rfl rfl rfl hok fun L v w D I cs hR ho=>st_W hR (qaq ho) _ _ rfl rfl (I.val 7 (D 7 rfl)) fun _ c a b k=>⟨trivial,k,c,a,b⟩
 intro L v3 W3 hL hI
 replace R_b:=R_b.keep1 hI.keep ne_b_r
 replace R_n3:=R_n3.keep1 hI.keep (Ne.symm ne_r_n3)
 replace R_n4:=R_n4.keep1 hI.keep (Ne.symm ne_r_n4)
 replace R_r:=hI.new 0 rfl (hL 8 (by decide))
 replace lt_r:=ltk lt_r hI.keep.size
 replace hx:=hx.keep1 hI.keep bs_r
 clear hI hL hok L
 simp only [putP,Act.put,zA,zB,zC]
 go_wp2
 obtain ⟨cs,hr,hv⟩:=R_r
 replace hv : isW (Value.agg (List.toArray cs)) (tf (V (f))) (tf (V (g))) (1) ((tf (V (f))) * (tf (V (g)))):=hv
 obtain ⟨fs,hu'⟩:=uWd
 refine bodyPost_ret (results_cell_row (p:=2) (ty:=105) rfl _ _ r 105 _ (0,0) _ rfl hr hu' rfl (by rw [List.size_toArray,qg0 hv];exact iWd)) rfl ?_
 exact ⟨_,rfl,hv,hx⟩
def qvq : List Plan:=[⟨[],[]⟩]
def qvr : List Plan:=[⟨[],[]⟩,⟨[0],[(1,0)]⟩,⟨[],[]⟩,⟨[],[]⟩,⟨[0,1,2,3],[(2,1),(3,2),(4,3)]⟩,⟨[0,1,2,3,4],[(5,4)]⟩]
theorem qiz (w : World) :
  Calls Tryz.prog 71 #[] w fun e w'=>∃ r,e = .returned r∧isW r 0 1 1 0∧Ext w w':=by
 go_enter Tryz.func71,Tryz.ntmps71
 have hx : Ext w w:=Ext.refl w
 go_upto_region 0 with fail
 have hok : TrsOk [] w.heap.size ([(tk (some 0) 0 105 (none) (sz 16) (fun _=>True))] : List Trk):=⟨by simp [tk],by simp [tk],by simp [tk],by simp [tk]⟩
 refine qac (Inv [] (fun _ _=>True) [(tk (some 0) 0 105 (none) (sz 16) (fun _=>True))] w) qvq [(0,0)] 6 rfl (by kernel_rfl) (Inv.start0 hok (by simp)) ⟨?_,trivial⟩ ?_
 ·exact qa7 0 rfl rfl rfl rfl rfl hok fun L v w D I=>al_W rfl fun c h=>⟨trivial,rfl,c,rfl,qa5 c h⟩
 intro L v1 W1 hL hI
 obtain ⟨r,hb_r,lo_r,R_r⟩:=hI.made0 0 rfl (hL 0 (by decide))
 have bs_r:=Nat.le_trans hx.size lo_r
 have lt_r:=R_r.lt
 replace hx:=hx.trans hI.keep.to_ext
 clear hI hL hok L
 simp only [putP,Act.put,zA,zB,zC,hb_r]
 go_upto_region 1 with fail
 have hok : TrsOk [r] W1.heap.size ([(tk (none) r 105 (some 5) (sz 16) (fun u=>isW u (0) (1) (1) (0)))] : List Trk):=⟨by simp [tk,R_r.lt],by simp [tk],by simp [tk],by simp [tk]⟩
 refine qac (Inv [r] (fun j u=>match j with | 0=>isE u (1) | 1=>isFl u (0) (1) | 2=>isE u (1) | 3=>isE u (0) | 4=>isW u (0) (1) (1) (0) | _=>True) [(tk (none) r 105 (some 5) (sz 16) (fun u=>isW u (0) (1) (1) (0)))] W1) qvr [(1,0),(2,1),(3,2),(4,3),(5,4)] 6 rfl (by kernel_rfl) (Inv.start0 hok (by
   simp only [zD,zE,zF,zG,zH]
   exact fun _=>R_r)) ⟨?_,?_,?_,?_,?_,?_,trivial⟩ ?_
 ·exact sV fun L v w D N I=>qow rfl rfl ldK
 ·exact sV fun L v w D N I=>bd_FLy _ rfl (I.val 0 (D 0 rfl)) ldK
 ·exact sV fun L v w D N I=>qow rfl rfl ldK
 ·exact sV fun L v w D N I=>bd_E0 rfl ldK
 ·exact sV fun L v w D N I=>bd_W _ _ _ rfl (I.val 1 (D 1 rfl)) (I.val 2 (D 2 rfl)) (I.val 3 (D 3 rfl)) ldK
 ·exact s_put 0 rfl rfl rfl rfl rfl hok fun L v w D I cs hR ho=>st_W hR (qaq ho) _ _ rfl rfl (I.val 4 (D 4 rfl)) fun _ c a b k=>⟨trivial,k,c,a,b⟩
 intro L v2 W2 hL hI
 replace R_r:=hI.new 0 rfl (hL 5 (by decide))
 replace lt_r:=ltk lt_r hI.keep.size
 replace hx:=hx.keep1 hI.keep bs_r
 clear hI hL hok L
 simp only [putP,Act.put,zA,zB,zC]
 go_wp2
 obtain ⟨cs,hr,hv⟩:=R_r
 replace hv : isW (Value.agg (List.toArray cs)) (0) (1) (1) (0):=hv
 obtain ⟨fs,hu'⟩:=uWd
 refine bodyPost_ret (results_cell_row (p:=0) (ty:=105) rfl _ _ r 105 _ (0,0) _ rfl hr hu' rfl (by rw [List.size_toArray,qg0 hv];exact iWd)) rfl ?_
 exact ⟨_,rfl,hv,hx⟩
def qvn : List Plan:=[⟨[],[]⟩,⟨[],[]⟩]
def qvo : List Plan:=[⟨[],[]⟩,⟨[0],[(4,0)]⟩,⟨[0,1],[(5,1)]⟩,⟨[],[]⟩,⟨[0,1,2,3],[(6,2),(3,3)]⟩]
def qvp : List Plan:=[⟨[],[]⟩,⟨[0],[(7,0)]⟩,⟨[0,1],[(8,1)]⟩,⟨[],[]⟩,⟨[0,1,2,3],[(9,2),(10,3)]⟩,⟨[0,1,2,3,4],[(11,4)]⟩,⟨[],[]⟩,⟨[6],[(13,6)]⟩,⟨[6,7],[(14,7)]⟩,⟨[],[]⟩,⟨[0,1,2,3,4,5,6,7,8,9],[(15,8),(16,9)]⟩,⟨[0,1,2,3,4,5,6,7,8,9,10],[(17,10)]⟩,⟨[0,1,2,3,4,5,6,7,8,9,10,11],[(12,5),(18,11)]⟩,⟨[0,1,2,3,4,5,6,7,8,9,10,11,12],[(19,12)]⟩]
theorem qnr {u : Value} {P : P7} (hu : isP u P) (w : World) :
  Calls Tryz.prog 75 #[u] w fun e w'=>e = .returned (.agg (pc (fb P.x) (fb P.y)))∧Ext w w':=by
 obtain ⟨X1,Y1,Z1,T1,hu,hP⟩:=hu
 obtain ⟨c0,rfl,-,-,hc0⟩:=qeh hu
 clear hu
 go_enter Tryz.func75,Tryz.ntmps75
 have hx : Ext w w:=Ext.refl w
 go_upto_region 0 with fail
 have hok : TrsOk [] w.heap.size ([(tk (some 0) 0 105 (none) (fun u=>isW u (X1) (Y1) (Z1) (T1)) (fun _=>True)),(tk (some 1) 0 49 (none) (sz 64) (fun _=>True))] : List Trk):=⟨by simp [tk],by simp [tk],by simp [tk],by simp [tk]⟩
 refine qac (Inv [] (fun _ _=>True) [(tk (some 0) 0 105 (none) (fun u=>isW u (X1) (Y1) (Z1) (T1)) (fun _=>True)),(tk (some 1) 0 49 (none) (sz 64) (fun _=>True))] w) qvn [(1,0),(2,1)] 20 rfl (by kernel_rfl) (Inv.start0 hok (by simp)) ⟨?_,?_,trivial⟩ ?_
 ·exact qa7 0 rfl rfl rfl rfl rfl hok fun L v w D I=>qba c0.toList rfl rfl ⟨trivial,rfl,_,rfl,hc0⟩
 ·exact qa7 1 rfl rfl rfl rfl rfl hok fun L v w D I=>qj3 rfl fun c h=>⟨trivial,rfl,c,rfl,qa5 c h⟩
 intro L v1 W1 hL hI
 obtain ⟨bu,hb_bu,lo_bu,R_bu⟩:=hI.made0 0 rfl (hL 0 (by decide))
 obtain ⟨r,hb_r,lo_r,R_r⟩:=hI.made0 1 rfl (hL 1 (by decide))
 have ne_bu_r:=hI.two 0 1 rfl rfl rfl rfl rfl (hL 0 (by decide)) (hL 1 (by decide)) hb_bu hb_r
 have bs_r:=Nat.le_trans hx.size lo_r
 have lt_r:=R_r.lt
 replace hx:=hx.trans hI.keep.to_ext
 clear hI hL hok L
 simp only [putP,Act.put,zA,zB,zC,hb_bu,hb_r]
 go_upto_region 1 with fail
 have hok : TrsOk [] W1.heap.size ([(tk (some 3) 0 101 (some 4) (sz 4) (fun u=>isE u (fiv (Z1))))] : List Trk):=⟨by simp [tk],by simp [tk],by simp [tk],by simp [tk]⟩
 refine qac (Inv [] (fun j u=>match j with | 0=>u = .pointer (some ⟨bu,8,none⟩) | 1=>isE u (Z1) | 2=>isE u (fiv (Z1)) | _=>True) [(tk (some 3) 0 101 (some 4) (sz 4) (fun u=>isE u (fiv (Z1))))] W1) qvo [(4,0),(5,1),(6,2),(3,3)] 20 rfl (by kernel_rfl) (Inv.start0 hok (by simp)) ⟨?_,?_,?_,?_,?_,trivial⟩ ?_
 ·exact sV fun L v w D N I=>qal rfl rfl fW1 ⟨rfl,Ext.refl _⟩
 ·exact sV fun L v w D N I=>qqv (R_bu.keep0 I.keep) _ rfl (I.val 0 (D 0 rfl)) ldK
 ·exact sV fun L v w D N I=>gInv _ _ rfl rfl (einv (I.val 1 (D 1 rfl)) w)
 ·exact qa7 0 rfl rfl rfl rfl rfl hok fun L v w D I=>al_E rfl fun c h=>⟨trivial,rfl,c,rfl,qa5 c h⟩
 ·exact qcv 0 3 rfl rfl rfl rfl rfl rfl hok fun L v w D I n cs hb hR ho=>st_E hR (qaq ho) _ _ rfl hb (I.val 2 (D 2 rfl)) fun _ c a b k=>⟨trivial,k,c,a,b⟩
 intro L v2 W2 hL hI
 obtain ⟨n3,hb_n3,lo_n3,R_n3⟩:=hI.made 0 rfl (hL 3 (by decide)) (hL 4 (by decide))
 replace R_bu:=R_bu.keep0 hI.keep
 replace R_r:=R_r.keep0 hI.keep
 have ne_r_n3:=Nat.ne_of_lt (Nat.lt_of_lt_of_le lt_r lo_n3)
 replace lt_r:=ltk lt_r hI.keep.size
 replace hx:=hx.trans hI.keep.to_ext
 clear hI hL hok L
 simp only [putP,Act.put,zA,zB,zC,hb_n3]
 go_upto_region 2 with fail
 have hok : TrsOk [r] W2.heap.size ([(tk (none) r 49 (some 13) (sz 64) (fun u=>u = .agg (pc (fb ((X1) * (fiv (Z1)))) (fb ((Y1) * (fiv (Z1)))))))] : List Trk):=⟨by simp [tk,R_r.lt],by simp [tk],by simp [tk],by simp [tk]⟩
 refine qag (Inv [r] (fun j u=>match j with | 0=>u = .pointer (some ⟨bu,0,none⟩) | 1=>u = .pointer (some ⟨bu,0,none⟩) | 2=>isE u (X1) | 3=>isE u (fiv (Z1)) | 4=>isE u ((X1) * (fiv (Z1))) | 5=>u = .agg (qab (fb ((X1) * (fiv (Z1))))) | 6=>u = .pointer (some ⟨bu,0,none⟩) | 7=>u = .pointer (some ⟨bu,4,none⟩) | 8=>isE u (Y1) | 9=>isE u (fiv (Z1)) | 10=>isE u ((Y1) * (fiv (Z1))) | 11=>u = .agg (qab (fb ((Y1) * (fiv (Z1))))) | 12=>u = .agg (pc (fb ((X1) * (fiv (Z1)))) (fb ((Y1) * (fiv (Z1))))) | _=>True) [(tk (none) r 49 (some 13) (sz 64) (fun u=>u = .agg (pc (fb ((X1) * (fiv (Z1)))) (fb ((Y1) * (fiv (Z1)))))))] W2) qvp [(7,0),(8,1),(9,2),(10,3),(11,4),(12,5),(13,6),(14,7),(15,8),(16,9),(17,10),(18,11),(19,12)] 20 (by kernel_rfl) rfl (by kernel_rfl) (Inv.start hok (by
   simp only [zD,zE,zF,zG,zH]
   exact fun _=>R_r)) ⟨?_,?_,?_,?_,?_,?_,?_,?_,?_,?_,?_,?_,?_,?_,trivial⟩ ?_
 ·exact sV fun L v w D N I=>qal rfl rfl fW0 ⟨rfl,Ext.refl _⟩
 ·exact sV fun L v w D N I=>qal rfl (I.val 0 (D 0 rfl)) fFL0 ⟨rfl,Ext.refl _⟩
 ·exact sV fun L v w D N I=>qkw (R_bu.keep1 I.keep ne_bu_r) _ rfl (I.val 1 (D 1 rfl)) ldK
 ·exact sV fun L v w D N I=>ld_E (R_n3.keep1 I.keep (Ne.symm ne_r_n3)) _ rfl rfl ldK
 ·exact sV fun L v w D N I=>gMul _ _ rfl rfl (emul (I.val 2 (D 2 rfl)) (I.val 3 (D 3 rfl)) w)
 ·exact sV fun L v w D N I=>gOut _ _ rfl rfl (qaf (eout (I.val 4 (D 4 rfl)) w))
 ·exact sV fun L v w D N I=>qal rfl rfl fW0 ⟨rfl,Ext.refl _⟩
 ·exact sV fun L v w D N I=>qal rfl (I.val 6 (D 6 rfl)) fFL1 ⟨rfl,Ext.refl _⟩
 ·exact sV fun L v w D N I=>qkv (R_bu.keep1 I.keep ne_bu_r) _ rfl (I.val 7 (D 7 rfl)) ldK
 ·exact sV fun L v w D N I=>ld_E (R_n3.keep1 I.keep (Ne.symm ne_r_n3)) _ rfl rfl ldK
 ·exact sV fun L v w D N I=>gMul _ _ rfl rfl (emul (I.val 8 (D 8 rfl)) (I.val 9 (D 9 rfl)) w)
 ·exact sV fun L v w D N I=>gOut _ _ rfl rfl (qaf (eout (I.val 10 (D 10 rfl)) w))
 ·exact sV fun L v w D N I=>bd_P _ _ rfl (I.val 5 (D 5 rfl)) (I.val 11 (D 11 rfl)) ldK
 ·exact s_put 0 rfl rfl rfl rfl rfl hok fun L v w D I cs hR ho=>st_P hR (qaq ho) _ _ rfl rfl (I.val 12 (D 12 rfl)) fun _ c a b k=>⟨trivial,k,c,a,b⟩
 intro L v3 W3 hL hI
 replace R_bu:=R_bu.keep1 hI.keep ne_bu_r
 replace R_n3:=R_n3.keep1 hI.keep (Ne.symm ne_r_n3)
 replace R_r:=hI.new 0 rfl (hL 13 (by decide))
 replace lt_r:=ltk lt_r hI.keep.size
 replace hx:=hx.keep1 hI.keep bs_r
 clear hI hL hok L
 simp only [putP,Act.put,zA,zB,zC]
 go_wp2
 obtain ⟨cs,hr,hv⟩:=R_r
 replace hv : (Value.agg (List.toArray cs)) = .agg (pc (fb ((X1) * (fiv (Z1)))) (fb ((Y1) * (fiv (Z1))))):=hv
 obtain ⟨fs,hu'⟩:=uPt
 refine bodyPost_ret (results_cell_row (p:=2) (ty:=49) rfl _ _ r 49 _ (0,0) _ rfl hr hu' rfl (by rw [List.size_toArray,(show cs.length = 64 by rw [qbz hv];exact qa1 _ _)];exact iPt)) rfl ?_
 have ho : X1 * fiv Z1 = P.x∧Y1 * fiv Z1 = P.y:=hP.out
 have hv2 : Value.agg (List.toArray cs) = Value.agg (pc (fb (X1 * fiv Z1)) (fb (Y1 * fiv Z1))):=hv
 exact ⟨by rw [hv2,ho.1,ho.2],hx⟩
end Go.Proofs.YtgeihelkkhjjaaaGreatDoor
end
section
namespace Go.Proofs.YtgeihelkkhjjaaaGreatDoor
open Go.RowKit Go.Cv Go.Cv.Pr Go.Cv.Grp
def qvf : List Plan:=[⟨[],[]⟩,⟨[],[]⟩,⟨[],[]⟩]
def qvg : List Plan:=[⟨[],[]⟩,⟨[0],[(13,0)]⟩,⟨[0,1],[(14,1)]⟩,⟨[],[]⟩,⟨[3],[(16,3)]⟩,⟨[3,4],[(17,4)]⟩,⟨[0,1,2,3,4,5],[(15,2),(18,5)]⟩,⟨[],[]⟩,⟨[7],[(20,7)]⟩,⟨[7,8],[(21,8)]⟩,⟨[],[]⟩,⟨[10],[(23,10)]⟩,⟨[10,11],[(24,11)]⟩,⟨[0,1,2,3,4,5,6,7,8,9,10,11,12],[(22,9),(25,12)]⟩,⟨[0,1,2,3,4,5,6,7,8,9,10,11,12,13],[(19,6),(26,13)]⟩,⟨[],[]⟩,⟨[0,1,2,3,4,5,6,7,8,9,10,11,12,13,14,15],[(27,14),(5,15)]⟩]
def qvh : List Plan:=[⟨[],[]⟩,⟨[0],[(28,0)]⟩,⟨[0,1],[(29,1)]⟩,⟨[],[]⟩,⟨[3],[(31,3)]⟩,⟨[3,4],[(32,4)]⟩,⟨[0,1,2,3,4,5],[(30,2),(33,5)]⟩,⟨[],[]⟩,⟨[7],[(35,7)]⟩,⟨[7,8],[(36,8)]⟩,⟨[],[]⟩,⟨[10],[(38,10)]⟩,⟨[10,11],[(39,11)]⟩,⟨[0,1,2,3,4,5,6,7,8,9,10,11,12],[(37,9),(40,12)]⟩,⟨[0,1,2,3,4,5,6,7,8,9,10,11,12,13],[(34,6),(41,13)]⟩,⟨[],[]⟩,⟨[0,1,2,3,4,5,6,7,8,9,10,11,12,13,14,15],[(42,14),(6,15)]⟩]
def qvi : List Plan:=[⟨[],[]⟩,⟨[0],[(43,0)]⟩,⟨[],[]⟩,⟨[2],[(45,2)]⟩,⟨[0,1,2,3],[(44,1),(46,3)]⟩,⟨[0,1,2,3,4],[]⟩,⟨[0,1,2,3,4,5],[(47,4),(48,5)]⟩,⟨[],[]⟩,⟨[0,1,2,3,4,5,6,7],[(49,6),(7,7)]⟩]
def qvj : List Plan:=[⟨[],[]⟩,⟨[0],[(50,0)]⟩,⟨[],[]⟩,⟨[2],[(52,2)]⟩,⟨[0,1,2,3],[(51,1),(53,3)]⟩,⟨[],[]⟩,⟨[0,1,2,3,4,5],[(54,4),(8,5)]⟩]
def qvk : List Plan:=[⟨[],[]⟩,⟨[],[]⟩,⟨[0,1],[(55,0),(56,1)]⟩,⟨[0,1,2],[(57,2)]⟩]
def qvl : List Plan:=[⟨[],[]⟩,⟨[],[]⟩,⟨[0,1],[(58,0),(59,1)]⟩,⟨[],[]⟩,⟨[],[]⟩,⟨[0,1,2,3,4],[(61,3),(62,4)]⟩,⟨[],[]⟩,⟨[],[]⟩,⟨[0,1,2,3,4,5,6,7],[(64,6),(65,7)]⟩,⟨[],[]⟩,⟨[],[]⟩,⟨[0,1,2,3,4,5,6,7,8,9,10],[(67,9),(68,10)]⟩,⟨[],[]⟩,⟨[],[]⟩,⟨[],[]⟩,⟨[],[]⟩,⟨[0,1,2,3,4,5,6,7,8,9,10,11,12,13,14,15],[(60,2),(9,12)]⟩,⟨[0,1,2,3,4,5,6,7,8,9,10,11,12,13,14,15,16],[(63,5),(10,13)]⟩,⟨[0,1,2,3,4,5,6,7,8,9,10,11,12,13,14,15,16,17],[(66,8),(11,14)]⟩,⟨[0,1,2,3,4,5,6,7,8,9,10,11,12,13,14,15,16,17,18],[(69,11),(12,15)]⟩]
def qvm : List Plan:=[⟨[],[]⟩,⟨[],[]⟩,⟨[0,1],[(70,0),(71,1)]⟩,⟨[],[]⟩,⟨[],[]⟩,⟨[0,1,2,3,4],[(73,3),(74,4)]⟩,⟨[0,1,2,3,4,5],[(72,2),(75,5)]⟩,⟨[],[]⟩,⟨[],[]⟩,⟨[0,1,2,3,4,5,7,8],[(77,7),(78,8)]⟩,⟨[],[]⟩,⟨[],[]⟩,⟨[0,1,2,3,4,5,7,8,9,10,11],[(80,10),(81,11)]⟩,⟨[0,1,2,3,4,5,6,7,8,9,10,11,12],[(76,6),(79,9),(82,12)]⟩,⟨[0,1,2,3,4,5,6,7,8,9,10,11,12,13],[(83,13)]⟩]
theorem qgd {u v : Value} {P Q : P7} (hu : isP u P) (hv : isP v Q) (w : World) :
  Calls Tryz.prog 72 #[u,v] w fun e w'=>∃ r,e = .returned r∧isP r (P.add Q)∧Ext w w':=by
 obtain ⟨X1,Y1,Z1,T1,hu,hP⟩:=hu
 obtain ⟨X2,Y2,Z2,T2,hv,hQ⟩:=hv
 obtain ⟨c0,rfl,-,-,hc0⟩:=qeh hu
 obtain ⟨c1,rfl,-,-,hc1⟩:=qeh hv
 clear hu hv
 go_enter Tryz.func72,Tryz.ntmps72
 have hx : Ext w w:=Ext.refl w
 go_upto_region 0 with fail
 have hok : TrsOk [] w.heap.size ([(tk (some 0) 0 105 (none) (fun u=>isW u (X1) (Y1) (Z1) (T1)) (fun _=>True)),(tk (some 1) 0 105 (none) (fun u=>isW u (X2) (Y2) (Z2) (T2)) (fun _=>True)),(tk (some 2) 0 105 (none) (sz 16) (fun _=>True))] : List Trk):=⟨by simp [tk],by simp [tk],by simp [tk],by simp [tk]⟩
 refine qac (Inv [] (fun _ _=>True) [(tk (some 0) 0 105 (none) (fun u=>isW u (X1) (Y1) (Z1) (T1)) (fun _=>True)),(tk (some 1) 0 105 (none) (fun u=>isW u (X2) (Y2) (Z2) (T2)) (fun _=>True)),(tk (some 2) 0 105 (none) (sz 16) (fun _=>True))] w) qvf [(2,0),(3,1),(4,2)] 84 rfl (by kernel_rfl) (Inv.start0 hok (by simp)) ⟨?_,?_,?_,trivial⟩ ?_
 ·exact qa7 0 rfl rfl rfl rfl rfl hok fun L v w D I=>qba c0.toList rfl rfl ⟨trivial,rfl,_,rfl,hc0⟩
 ·exact qa7 1 rfl rfl rfl rfl rfl hok fun L v w D I=>qba c1.toList rfl rfl ⟨trivial,rfl,_,rfl,hc1⟩
 ·exact qa7 2 rfl rfl rfl rfl rfl hok fun L v w D I=>al_W rfl fun c h=>⟨trivial,rfl,c,rfl,qa5 c h⟩
 intro L v1 W1 hL hI
 obtain ⟨bu,hb_bu,lo_bu,R_bu⟩:=hI.made0 0 rfl (hL 0 (by decide))
 obtain ⟨bv,hb_bv,lo_bv,R_bv⟩:=hI.made0 1 rfl (hL 1 (by decide))
 obtain ⟨r,hb_r,lo_r,R_r⟩:=hI.made0 2 rfl (hL 2 (by decide))
 have ne_bu_r:=hI.two 0 2 rfl rfl rfl rfl rfl (hL 0 (by decide)) (hL 2 (by decide)) hb_bu hb_r
 have ne_bv_r:=hI.two 1 2 rfl rfl rfl rfl rfl (hL 1 (by decide)) (hL 2 (by decide)) hb_bv hb_r
 have bs_r:=Nat.le_trans hx.size lo_r
 have lt_r:=R_r.lt
 replace hx:=hx.trans hI.keep.to_ext
 clear hI hL hok L
 simp only [putP,Act.put,zA,zB,zC,hb_bu,hb_bv,hb_r]
 go_upto_region 1 with fail
 have hok : TrsOk [] W1.heap.size ([(tk (some 15) 0 101 (some 16) (sz 4) (fun u=>isE u (((Y1) - (X1)) * ((Y2) - (X2)))))] : List Trk):=⟨by simp [tk],by simp [tk],by simp [tk],by simp [tk]⟩
 refine qag (Inv [] (fun j u=>match j with | 0=>u = .pointer (some ⟨bu,0,none⟩) | 1=>u = .pointer (some ⟨bu,4,none⟩) | 2=>isE u (Y1) | 3=>u = .pointer (some ⟨bu,0,none⟩) | 4=>u = .pointer (some ⟨bu,0,none⟩) | 5=>isE u (X1) | 6=>isE u ((Y1) - (X1)) | 7=>u = .pointer (some ⟨bv,0,none⟩) | 8=>u = .pointer (some ⟨bv,4,none⟩) | 9=>isE u (Y2) | 10=>u = .pointer (some ⟨bv,0,none⟩) | 11=>u = .pointer (some ⟨bv,0,none⟩) | 12=>isE u (X2) | 13=>isE u ((Y2) - (X2)) | 14=>isE u (((Y1) - (X1)) * ((Y2) - (X2))) | _=>True) [(tk (some 15) 0 101 (some 16) (sz 4) (fun u=>isE u (((Y1) - (X1)) * ((Y2) - (X2)))))] W1) qvg [(13,0),(14,1),(15,2),(16,3),(17,4),(18,5),(19,6),(20,7),(21,8),(22,9),(23,10),(24,11),(25,12),(26,13),(27,14),(5,15)] 84 (by kernel_rfl) rfl (by kernel_rfl) (Inv.start hok (by simp)) ⟨?_,?_,?_,?_,?_,?_,?_,?_,?_,?_,?_,?_,?_,?_,?_,?_,?_,trivial⟩ ?_
 ·exact sV fun L v w D N I=>qal rfl rfl fW0 ⟨rfl,Ext.refl _⟩
 ·exact sV fun L v w D N I=>qal rfl (I.val 0 (D 0 rfl)) fFL1 ⟨rfl,Ext.refl _⟩
 ·exact sV fun L v w D N I=>qkv (R_bu.keep0 I.keep) _ rfl (I.val 1 (D 1 rfl)) ldK
 ·exact sV fun L v w D N I=>qal rfl rfl fW0 ⟨rfl,Ext.refl _⟩
 ·exact sV fun L v w D N I=>qal rfl (I.val 3 (D 3 rfl)) fFL0 ⟨rfl,Ext.refl _⟩
 ·exact sV fun L v w D N I=>qkw (R_bu.keep0 I.keep) _ rfl (I.val 4 (D 4 rfl)) ldK
 ·exact sV fun L v w D N I=>gSub _ _ rfl rfl (esub (I.val 2 (D 2 rfl)) (I.val 5 (D 5 rfl)) w)
 ·exact sV fun L v w D N I=>qal rfl rfl fW0 ⟨rfl,Ext.refl _⟩
 ·exact sV fun L v w D N I=>qal rfl (I.val 7 (D 7 rfl)) fFL1 ⟨rfl,Ext.refl _⟩
 ·exact sV fun L v w D N I=>qkv (R_bv.keep0 I.keep) _ rfl (I.val 8 (D 8 rfl)) ldK
 ·exact sV fun L v w D N I=>qal rfl rfl fW0 ⟨rfl,Ext.refl _⟩
 ·exact sV fun L v w D N I=>qal rfl (I.val 10 (D 10 rfl)) fFL0 ⟨rfl,Ext.refl _⟩
 ·exact sV fun L v w D N I=>qkw (R_bv.keep0 I.keep) _ rfl (I.val 11 (D 11 rfl)) ldK
 ·exact sV fun L v w D N I=>gSub _ _ rfl rfl (esub (I.val 9 (D 9 rfl)) (I.val 12 (D 12 rfl)) w)
 ·exact sV fun L v w D N I=>gMul _ _ rfl rfl (emul (I.val 6 (D 6 rfl)) (I.val 13 (D 13 rfl)) w)
 ·exact qa7 0 rfl rfl rfl rfl rfl hok fun L v w D I=>al_E rfl fun c h=>⟨trivial,rfl,c,rfl,qa5 c h⟩
 ·exact qcv 0 15 rfl rfl rfl rfl rfl rfl hok fun L v w D I n cs hb hR ho=>st_E hR (qaq ho) _ _ rfl hb (I.val 14 (D 14 rfl)) fun _ c a b k=>⟨trivial,k,c,a,b⟩
 intro L v2 W2 hL hI
 obtain ⟨n5,hb_n5,lo_n5,R_n5⟩:=hI.made 0 rfl (hL 15 (by decide)) (hL 16 (by decide))
 replace R_bu:=R_bu.keep0 hI.keep
 replace R_bv:=R_bv.keep0 hI.keep
 replace R_r:=R_r.keep0 hI.keep
 have ne_r_n5:=Nat.ne_of_lt (Nat.lt_of_lt_of_le lt_r lo_n5)
 replace lt_r:=ltk lt_r hI.keep.size
 replace hx:=hx.trans hI.keep.to_ext
 clear hI hL hok L
 obtain ⟨a,q_a⟩ : ∃ x,x = ((Y1) - (X1)) * ((Y2) - (X2)):=⟨_,rfl⟩
 rw [← q_a] at R_n5
 replace q_a:=Lib.hid q_a
 simp only [putP,Act.put,zA,zB,zC,hb_n5]
 go_upto_region 2 with fail
 have hok : TrsOk [] W2.heap.size ([(tk (some 15) 0 101 (some 16) (sz 4) (fun u=>isE u (((Y1) + (X1)) * ((Y2) + (X2)))))] : List Trk):=⟨by simp [tk],by simp [tk],by simp [tk],by simp [tk]⟩
 refine qag (Inv [] (fun j u=>match j with | 0=>u = .pointer (some ⟨bu,0,none⟩) | 1=>u = .pointer (some ⟨bu,4,none⟩) | 2=>isE u (Y1) | 3=>u = .pointer (some ⟨bu,0,none⟩) | 4=>u = .pointer (some ⟨bu,0,none⟩) | 5=>isE u (X1) | 6=>isE u ((Y1) + (X1)) | 7=>u = .pointer (some ⟨bv,0,none⟩) | 8=>u = .pointer (some ⟨bv,4,none⟩) | 9=>isE u (Y2) | 10=>u = .pointer (some ⟨bv,0,none⟩) | 11=>u = .pointer (some ⟨bv,0,none⟩) | 12=>isE u (X2) | 13=>isE u ((Y2) + (X2)) | 14=>isE u (((Y1) + (X1)) * ((Y2) + (X2))) | _=>True) [(tk (some 15) 0 101 (some 16) (sz 4) (fun u=>isE u (((Y1) + (X1)) * ((Y2) + (X2)))))] W2) qvh [(28,0),(29,1),(30,2),(31,3),(32,4),(33,5),(34,6),(35,7),(36,8),(37,9),(38,10),(39,11),(40,12),(41,13),(42,14),(6,15)] 84 (by kernel_rfl) rfl (by kernel_rfl) (Inv.start hok (by simp)) ⟨?_,?_,?_,?_,?_,?_,?_,?_,?_,?_,?_,?_,?_,?_,?_,?_,?_,trivial⟩ ?_
 ·exact sV fun L v w D N I=>qal rfl rfl fW0 ⟨rfl,Ext.refl _⟩
 ·exact sV fun L v w D N I=>qal rfl (I.val 0 (D 0 rfl)) fFL1 ⟨rfl,Ext.refl _⟩
 ·exact sV fun L v w D N I=>qkv (R_bu.keep0 I.keep) _ rfl (I.val 1 (D 1 rfl)) ldK
 ·exact sV fun L v w D N I=>qal rfl rfl fW0 ⟨rfl,Ext.refl _⟩
 ·exact sV fun L v w D N I=>qal rfl (I.val 3 (D 3 rfl)) fFL0 ⟨rfl,Ext.refl _⟩
 ·exact sV fun L v w D N I=>qkw (R_bu.keep0 I.keep) _ rfl (I.val 4 (D 4 rfl)) ldK
 ·exact sV fun L v w D N I=>gAdd _ _ rfl rfl (eadd (I.val 2 (D 2 rfl)) (I.val 5 (D 5 rfl)) w)
 ·exact sV fun L v w D N I=>qal rfl rfl fW0 ⟨rfl,Ext.refl _⟩
 ·exact sV fun L v w D N I=>qal rfl (I.val 7 (D 7 rfl)) fFL1 ⟨rfl,Ext.refl _⟩
 ·exact sV fun L v w D N I=>qkv (R_bv.keep0 I.keep) _ rfl (I.val 8 (D 8 rfl)) ldK
 ·exact sV fun L v w D N I=>qal rfl rfl fW0 ⟨rfl,Ext.refl _⟩
 ·exact sV fun L v w D N I=>qal rfl (I.val 10 (D 10 rfl)) fFL0 ⟨rfl,Ext.refl _⟩
 ·exact sV fun L v w D N I=>qkw (R_bv.keep0 I.keep) _ rfl (I.val 11 (D 11 rfl)) ldK
 ·exact sV fun L v w D N I=>gAdd _ _ rfl rfl (eadd (I.val 9 (D 9 rfl)) (I.val 12 (D 12 rfl)) w)
 ·exact sV fun L v w D N I=>gMul _ _ rfl rfl (emul (I.val 6 (D 6 rfl)) (I.val 13 (D 13 rfl)) w)
 ·exact qa7 0 rfl rfl rfl rfl rfl hok fun L v w D I=>al_E rfl fun c h=>⟨trivial,rfl,c,rfl,qa5 c h⟩
 ·exact qcv 0 15 rfl rfl rfl rfl rfl rfl hok fun L v w D I n cs hb hR ho=>st_E hR (qaq ho) _ _ rfl hb (I.val 14 (D 14 rfl)) fun _ c a b k=>⟨trivial,k,c,a,b⟩
 intro L v3 W3 hL hI
 obtain ⟨n6,hb_n6,lo_n6,R_n6⟩:=hI.made 0 rfl (hL 15 (by decide)) (hL 16 (by decide))
 replace R_bu:=R_bu.keep0 hI.keep
 replace R_bv:=R_bv.keep0 hI.keep
 replace R_r:=R_r.keep0 hI.keep
 replace R_n5:=R_n5.keep0 hI.keep
 have ne_r_n6:=Nat.ne_of_lt (Nat.lt_of_lt_of_le lt_r lo_n6)
 replace lt_r:=ltk lt_r hI.keep.size
 replace hx:=hx.trans hI.keep.to_ext
 clear hI hL hok L
 obtain ⟨b,q_b⟩ : ∃ x,x = ((Y1) + (X1)) * ((Y2) + (X2)):=⟨_,rfl⟩
 rw [← q_b] at R_n6
 replace q_b:=Lib.hid q_b
 simp only [putP,Act.put,zA,zB,zC,hb_n6]
 go_upto_region 3 with fail
 have hok : TrsOk [] W3.heap.size ([(tk (some 7) 0 101 (some 8) (sz 4) (fun u=>isE u (((T1) * (T2)) * (C7.d + C7.d))))] : List Trk):=⟨by simp [tk],by simp [tk],by simp [tk],by simp [tk]⟩
 refine qac (Inv [] (fun j u=>match j with | 0=>u = .pointer (some ⟨bu,12,none⟩) | 1=>isE u (T1) | 2=>u = .pointer (some ⟨bv,12,none⟩) | 3=>isE u (T2) | 4=>isE u ((T1) * (T2)) | 5=>isE u (C7.d + C7.d) | 6=>isE u (((T1) * (T2)) * (C7.d + C7.d)) | _=>True) [(tk (some 7) 0 101 (some 8) (sz 4) (fun u=>isE u (((T1) * (T2)) * (C7.d + C7.d))))] W3) qvi [(43,0),(44,1),(45,2),(46,3),(47,4),(48,5),(49,6),(7,7)] 84 rfl (by kernel_rfl) (Inv.start0 hok (by simp)) ⟨?_,?_,?_,?_,?_,?_,?_,?_,?_,trivial⟩ ?_
 ·exact sV fun L v w D N I=>qal rfl rfl fW2 ⟨rfl,Ext.refl _⟩
 ·exact sV fun L v w D N I=>ld_Wt (R_bu.keep0 I.keep) _ rfl (I.val 0 (D 0 rfl)) ldK
 ·exact sV fun L v w D N I=>qal rfl rfl fW2 ⟨rfl,Ext.refl _⟩
 ·exact sV fun L v w D N I=>ld_Wt (R_bv.keep0 I.keep) _ rfl (I.val 2 (D 2 rfl)) ldK
 ·exact sV fun L v w D N I=>gMul _ _ rfl rfl (emul (I.val 1 (D 1 rfl)) (I.val 3 (D 3 rfl)) w)
 ·exact sV fun L v w D N I=>gTw _ _ rfl rfl (qo6 w)
 ·exact sV fun L v w D N I=>gMul _ _ rfl rfl (emul (I.val 4 (D 4 rfl)) (I.val 5 (D 5 rfl)) w)
 ·exact qa7 0 rfl rfl rfl rfl rfl hok fun L v w D I=>al_E rfl fun c h=>⟨trivial,rfl,c,rfl,qa5 c h⟩
 ·exact qcv 0 7 rfl rfl rfl rfl rfl rfl hok fun L v w D I n cs hb hR ho=>st_E hR (qaq ho) _ _ rfl hb (I.val 6 (D 6 rfl)) fun _ c a b k=>⟨trivial,k,c,a,b⟩
 intro L v4 W4 hL hI
 obtain ⟨n7,hb_n7,lo_n7,R_n7⟩:=hI.made 0 rfl (hL 7 (by decide)) (hL 8 (by decide))
 replace R_bu:=R_bu.keep0 hI.keep
 replace R_bv:=R_bv.keep0 hI.keep
 replace R_r:=R_r.keep0 hI.keep
 replace R_n5:=R_n5.keep0 hI.keep
 replace R_n6:=R_n6.keep0 hI.keep
 have ne_r_n7:=Nat.ne_of_lt (Nat.lt_of_lt_of_le lt_r lo_n7)
 replace lt_r:=ltk lt_r hI.keep.size
 replace hx:=hx.trans hI.keep.to_ext
 clear hI hL hok L
 obtain ⟨c,q_c⟩ : ∃ x,x = ((T1) * (T2)) * (C7.d + C7.d):=⟨_,rfl⟩
 rw [← q_c] at R_n7
 replace q_c:=Lib.hid q_c
 simp only [putP,Act.put,zA,zB,zC,hb_n7]
 go_upto_region 4 with fail
 have hok : TrsOk [] W4.heap.size ([(tk (some 5) 0 101 (some 6) (sz 4) (fun u=>isE u ((Z1) * (Z2))))] : List Trk):=⟨by simp [tk],by simp [tk],by simp [tk],by simp [tk]⟩
 refine qac (Inv [] (fun j u=>match j with | 0=>u = .pointer (some ⟨bu,8,none⟩) | 1=>isE u (Z1) | 2=>u = .pointer (some ⟨bv,8,none⟩) | 3=>isE u (Z2) | 4=>isE u ((Z1) * (Z2)) | _=>True) [(tk (some 5) 0 101 (some 6) (sz 4) (fun u=>isE u ((Z1) * (Z2))))] W4) qvj [(50,0),(51,1),(52,2),(53,3),(54,4),(8,5)] 84 rfl (by kernel_rfl) (Inv.start0 hok (by simp)) ⟨?_,?_,?_,?_,?_,?_,?_,trivial⟩ ?_
 ·exact sV fun L v w D N I=>qal rfl rfl fW1 ⟨rfl,Ext.refl _⟩
 ·exact sV fun L v w D N I=>qqv (R_bu.keep0 I.keep) _ rfl (I.val 0 (D 0 rfl)) ldK
 ·exact sV fun L v w D N I=>qal rfl rfl fW1 ⟨rfl,Ext.refl _⟩
 ·exact sV fun L v w D N I=>qqv (R_bv.keep0 I.keep) _ rfl (I.val 2 (D 2 rfl)) ldK
 ·exact sV fun L v w D N I=>gMul _ _ rfl rfl (emul (I.val 1 (D 1 rfl)) (I.val 3 (D 3 rfl)) w)
 ·exact qa7 0 rfl rfl rfl rfl rfl hok fun L v w D I=>al_E rfl fun c h=>⟨trivial,rfl,c,rfl,qa5 c h⟩
 ·exact qcv 0 5 rfl rfl rfl rfl rfl rfl hok fun L v w D I n cs hb hR ho=>st_E hR (qaq ho) _ _ rfl hb (I.val 4 (D 4 rfl)) fun _ c a b k=>⟨trivial,k,c,a,b⟩
 intro L v5 W5 hL hI
 obtain ⟨n8,hb_n8,lo_n8,R_n8⟩:=hI.made 0 rfl (hL 5 (by decide)) (hL 6 (by decide))
 have lt_bu:=R_bu.lt
 have lt_bv:=R_bv.lt
 have lt_n5:=R_n5.lt
 have lt_n6:=R_n6.lt
 have lt_n7:=R_n7.lt
 replace R_bu:=R_bu.keep0 hI.keep
 replace R_bv:=R_bv.keep0 hI.keep
 replace R_r:=R_r.keep0 hI.keep
 replace R_n5:=R_n5.keep0 hI.keep
 replace R_n6:=R_n6.keep0 hI.keep
 replace R_n7:=R_n7.keep0 hI.keep
 have ne_bu_n8:=Nat.ne_of_lt (Nat.lt_of_lt_of_le lt_bu lo_n8)
 have ne_bv_n8:=Nat.ne_of_lt (Nat.lt_of_lt_of_le lt_bv lo_n8)
 have ne_r_n8:=Nat.ne_of_lt (Nat.lt_of_lt_of_le lt_r lo_n8)
 have ne_n5_n8:=Nat.ne_of_lt (Nat.lt_of_lt_of_le lt_n5 lo_n8)
 have ne_n6_n8:=Nat.ne_of_lt (Nat.lt_of_lt_of_le lt_n6 lo_n8)
 have ne_n7_n8:=Nat.ne_of_lt (Nat.lt_of_lt_of_le lt_n7 lo_n8)
 replace lt_r:=ltk lt_r hI.keep.size
 have bs_n8:=Nat.le_trans hx.size lo_n8
 have lt_n8:=R_n8.lt
 replace hx:=hx.trans hI.keep.to_ext
 clear hI hL hok L
 obtain ⟨z0,q_z0⟩ : ∃ x,x = (Z1) * (Z2):=⟨_,rfl⟩
 rw [← q_z0] at R_n8
 replace q_z0:=Lib.hid q_z0
 simp only [putP,Act.put,zA,zB,zC,hb_n8]
 go_upto_region 5 with fail
 have hok : TrsOk [n8] W5.heap.size ([(tk (none) n8 101 (some 3) (fun u=>isE u (z0)) (fun u=>isE u ((z0) + (z0))))] : List Trk):=⟨by simp [tk,R_n8.lt],by simp [tk],by simp [tk],by simp [tk]⟩
 refine qac (Inv [n8] (fun j u=>match j with | 0=>isE u (z0) | 1=>isE u (z0) | 2=>isE u ((z0) + (z0)) | _=>True) [(tk (none) n8 101 (some 3) (fun u=>isE u (z0)) (fun u=>isE u ((z0) + (z0))))] W5) qvk [(55,0),(56,1),(57,2)] 84 rfl (by kernel_rfl) (Inv.start0 hok (by
   simp only [zD,zE,zF,zG,zH]
   exact fun _=>R_n8)) ⟨?_,?_,?_,?_,trivial⟩ ?_
 ·exact sV fun L v w D N I=>ld_E (I.old 0 rfl (N 3 rfl)) _ rfl rfl ldK
 ·exact sV fun L v w D N I=>ld_E (I.old 0 rfl (N 3 rfl)) _ rfl rfl ldK
 ·exact sV fun L v w D N I=>gAdd _ _ rfl rfl (eadd (I.val 0 (D 0 rfl)) (I.val 1 (D 1 rfl)) w)
 ·exact s_put 0 rfl rfl rfl rfl rfl hok fun L v w D I cs hR ho=>st_E hR (qid ho) _ _ rfl rfl (I.val 2 (D 2 rfl)) fun _ c a b k=>⟨trivial,k,c,a,b⟩
 intro L v6 W6 hL hI
 replace R_bu:=R_bu.keep1 hI.keep ne_bu_n8
 replace R_bv:=R_bv.keep1 hI.keep ne_bv_n8
 replace R_r:=R_r.keep1 hI.keep ne_r_n8
 replace R_n5:=R_n5.keep1 hI.keep ne_n5_n8
 replace R_n6:=R_n6.keep1 hI.keep ne_n6_n8
 replace R_n7:=R_n7.keep1 hI.keep ne_n7_n8
 replace R_n8:=hI.new 0 rfl (hL 3 (by decide))
 replace lt_r:=ltk lt_r hI.keep.size
 replace lt_n8:=ltk lt_n8 hI.keep.size
 replace hx:=hx.keep1 hI.keep bs_n8
 clear hI hL hok L
 obtain ⟨z,q_z⟩ : ∃ x,x = (z0) + (z0):=⟨_,rfl⟩
 rw [← q_z] at R_n8
 replace q_z:=Lib.hid q_z
 simp only [putP,Act.put,zA,zB,zC]
 go_upto_region 6 with fail
 have hok : TrsOk [] W6.heap.size ([(tk (some 12) 0 101 (some 16) (sz 4) (fun u=>isE u ((b) - (a)))),(tk (some 13) 0 101 (some 17) (sz 4) (fun u=>isE u ((z) - (c)))),(tk (some 14) 0 101 (some 18) (sz 4) (fun u=>isE u ((z) + (c)))),(tk (some 15) 0 101 (some 19) (sz 4) (fun u=>isE u ((b) + (a))))] : List Trk):=⟨by simp [tk],by simp [tk],by simp [tk],by simp [tk]⟩
 refine qag (Inv [] (fun j u=>match j with | 0=>isE u (b) | 1=>isE u (a) | 2=>isE u ((b) - (a)) | 3=>isE u (z) | 4=>isE u (c) | 5=>isE u ((z) - (c)) | 6=>isE u (z) | 7=>isE u (c) | 8=>isE u ((z) + (c)) | 9=>isE u (b) | 10=>isE u (a) | 11=>isE u ((b) + (a)) | _=>True) [(tk (some 12) 0 101 (some 16) (sz 4) (fun u=>isE u ((b) - (a)))),(tk (some 13) 0 101 (some 17) (sz 4) (fun u=>isE u ((z) - (c)))),(tk (some 14) 0 101 (some 18) (sz 4) (fun u=>isE u ((z) + (c)))),(tk (some 15) 0 101 (some 19) (sz 4) (fun u=>isE u ((b) + (a))))] W6) qvl [(58,0),(59,1),(60,2),(61,3),(62,4),(63,5),(64,6),(65,7),(66,8),(67,9),(68,10),(69,11),(9,12),(10,13),(11,14),(12,15)] 84 (by kernel_rfl) rfl (by kernel_rfl) (Inv.start hok (by simp)) ⟨?_,?_,?_,?_,?_,?_,?_,?_,?_,?_,?_,?_,?_,?_,?_,?_,?_,?_,?_,?_,trivial⟩ ?_
 ·exact sV fun L v w D N I=>ld_E (R_n6.keep0 I.keep) _ rfl rfl ldK
 ·exact sV fun L v w D N I=>ld_E (R_n5.keep0 I.keep) _ rfl rfl ldK
 ·exact sV fun L v w D N I=>gSub _ _ rfl rfl (esub (I.val 0 (D 0 rfl)) (I.val 1 (D 1 rfl)) w)
 ·exact sV fun L v w D N I=>ld_E (R_n8.keep0 I.keep) _ rfl rfl ldK
 ·exact sV fun L v w D N I=>ld_E (R_n7.keep0 I.keep) _ rfl rfl ldK
 ·exact sV fun L v w D N I=>gSub _ _ rfl rfl (esub (I.val 3 (D 3 rfl)) (I.val 4 (D 4 rfl)) w)
 ·exact sV fun L v w D N I=>ld_E (R_n8.keep0 I.keep) _ rfl rfl ldK
 ·exact sV fun L v w D N I=>ld_E (R_n7.keep0 I.keep) _ rfl rfl ldK
 ·exact sV fun L v w D N I=>gAdd _ _ rfl rfl (eadd (I.val 6 (D 6 rfl)) (I.val 7 (D 7 rfl)) w)
 ·exact sV fun L v w D N I=>ld_E (R_n6.keep0 I.keep) _ rfl rfl ldK
 ·exact sV fun L v w D N I=>ld_E (R_n5.keep0 I.keep) _ rfl rfl ldK
 ·exact sV fun L v w D N I=>gAdd _ _ rfl rfl (eadd (I.val 9 (D 9 rfl)) (I.val 10 (D 10 rfl)) w)
 ·exact qa7 0 rfl rfl rfl rfl rfl hok fun L v w D I=>al_E rfl fun c h=>⟨trivial,rfl,c,rfl,qa5 c h⟩
 ·exact qa7 1 rfl rfl rfl rfl rfl hok fun L v w D I=>al_E rfl fun c h=>⟨trivial,rfl,c,rfl,qa5 c h⟩
 ·exact qa7 2 rfl rfl rfl rfl rfl hok fun L v w D I=>al_E rfl fun c h=>⟨trivial,rfl,c,rfl,qa5 c h⟩
 ·exact qa7 3 rfl rfl rfl rfl rfl hok fun L v w D I=>al_E rfl fun c h=>⟨trivial,rfl,c,rfl,qa5 c h⟩
 ·exact qcv 0 12 rfl rfl rfl rfl rfl rfl hok fun L v w D I n cs hb hR ho=>st_E hR (qaq ho) _ _ rfl hb (I.val 2 (D 2 rfl)) fun _ c a b k=>⟨trivial,k,c,a,b⟩
 ·exact qcv 1 13 rfl rfl rfl rfl rfl rfl hok fun L v w D I n cs hb hR ho=>st_E hR (qaq ho) _ _ rfl hb (I.val 5 (D 5 rfl)) fun _ c a b k=>⟨trivial,k,c,a,b⟩
 ·exact qcv 2 14 rfl rfl rfl rfl rfl rfl hok fun L v w D I n cs hb hR ho=>st_E hR (qaq ho) _ _ rfl hb (I.val 8 (D 8 rfl)) fun _ c a b k=>⟨trivial,k,c,a,b⟩
 ·exact qcv 3 15 rfl rfl rfl rfl rfl rfl hok fun L v w D I n cs hb hR ho=>st_E hR (qaq ho) _ _ rfl hb (I.val 11 (D 11 rfl)) fun _ c a b k=>⟨trivial,k,c,a,b⟩
 intro L v7 W7 hL hI
 obtain ⟨n9,hb_n9,lo_n9,R_n9⟩:=hI.made 0 rfl (hL 12 (by decide)) (hL 16 (by decide))
 obtain ⟨n10,hb_n10,lo_n10,R_n10⟩:=hI.made 1 rfl (hL 13 (by decide)) (hL 17 (by decide))
 obtain ⟨n11,hb_n11,lo_n11,R_n11⟩:=hI.made 2 rfl (hL 14 (by decide)) (hL 18 (by decide))
 obtain ⟨n12,hb_n12,lo_n12,R_n12⟩:=hI.made 3 rfl (hL 15 (by decide)) (hL 19 (by decide))
 replace R_bu:=R_bu.keep0 hI.keep
 replace R_bv:=R_bv.keep0 hI.keep
 replace R_r:=R_r.keep0 hI.keep
 replace R_n5:=R_n5.keep0 hI.keep
 replace R_n6:=R_n6.keep0 hI.keep
 replace R_n7:=R_n7.keep0 hI.keep
 replace R_n8:=R_n8.keep0 hI.keep
 have ne_r_n9:=Nat.ne_of_lt (Nat.lt_of_lt_of_le lt_r lo_n9)
 have ne_n8_n9:=Nat.ne_of_lt (Nat.lt_of_lt_of_le lt_n8 lo_n9)
 have ne_r_n10:=Nat.ne_of_lt (Nat.lt_of_lt_of_le lt_r lo_n10)
 have ne_n8_n10:=Nat.ne_of_lt (Nat.lt_of_lt_of_le lt_n8 lo_n10)
 have ne_r_n11:=Nat.ne_of_lt (Nat.lt_of_lt_of_le lt_r lo_n11)
 have ne_n8_n11:=Nat.ne_of_lt (Nat.lt_of_lt_of_le lt_n8 lo_n11)
 have ne_r_n12:=Nat.ne_of_lt (Nat.lt_of_lt_of_le lt_r lo_n12)
 have ne_n8_n12:=Nat.ne_of_lt (Nat.lt_of_lt_of_le lt_n8 lo_n12)
 replace lt_r:=ltk lt_r hI.keep.size
 replace lt_n8:=ltk lt_n8 hI.keep.size
 replace hx:=hx.trans hI.keep.to_ext
 clear hI hL hok L
 obtain ⟨e,q_e⟩ : ∃ x,x = (b) - (a):=⟨_,rfl⟩
 rw [← q_e] at R_n9
 replace q_e:=Lib.hid q_e
 obtain ⟨f,q_f⟩ : ∃ x,x = (z) - (c):=⟨_,rfl⟩
 rw [← q_f] at R_n10
 replace q_f:=Lib.hid q_f
 obtain ⟨g,q_g⟩ : ∃ x,x = (z) + (c):=⟨_,rfl⟩
 rw [← q_g] at R_n11
 replace q_g:=Lib.hid q_g
 obtain ⟨h,q_h⟩ : ∃ x,x = (b) + (a):=⟨_,rfl⟩
 rw [← q_h] at R_n12
 replace q_h:=Lib.hid q_h
 simp only [putP,Act.put,zA,zB,zC,hb_n9,hb_n10,hb_n11,hb_n12]
 go_upto_region 7 with fail
 have hok : TrsOk [r] W7.heap.size ([(tk (none) r 105 (some 14) (sz 16) (fun u=>isW u ((e) * (f)) ((g) * (h)) ((f) * (g)) ((e) * (h))))] : List Trk):=⟨by simp [tk,R_r.lt],by simp [tk],by simp [tk],by simp [tk]⟩
 refine qag (Inv [r] (fun j u=>match j with | 0=>isE u (e) | 1=>isE u (f) | 2=>isE u ((e) * (f)) | 3=>isE u (g) | 4=>isE u (h) | 5=>isE u ((g) * (h)) | 6=>isFl u ((e) * (f)) ((g) * (h)) | 7=>isE u (f) | 8=>isE u (g) | 9=>isE u ((f) * (g)) | 10=>isE u (e) | 11=>isE u (h) | 12=>isE u ((e) * (h)) | 13=>isW u ((e) * (f)) ((g) * (h)) ((f) * (g)) ((e) * (h)) | _=>True) [(tk (none) r 105 (some 14) (sz 16) (fun u=>isW u ((e) * (f)) ((g) * (h)) ((f) * (g)) ((e) * (h))))] W7) qvm [(70,0),(71,1),(72,2),(73,3),(74,4),(75,5),(76,6),(77,7),(78,8),(79,9),(80,10),(81,11),(82,12),(83,13)] 84 (by kernel_rfl) rfl (by kernel_rfl) (Inv.start hok (by
   simp only [zD,zE,zF,zG,zH]
   exact fun _=>R_r)) ⟨?_,?_,?_,?_,?_,?_,?_,?_,?_,?_,?_,?_,?_,?_,?_,trivial⟩ ?_
 ·exact sV fun L v w D N I=>ld_E (R_n9.keep1 I.keep (Ne.symm ne_r_n9)) _ rfl rfl ldK
 ·exact sV fun L v w D N I=>ld_E (R_n10.keep1 I.keep (Ne.symm ne_r_n10)) _ rfl rfl ldK
 ·exact sV fun L v w D N I=>gMul _ _ rfl rfl (emul (I.val 0 (D 0 rfl)) (I.val 1 (D 1 rfl)) w)
 ·exact sV fun L v w D N I=>ld_E (R_n11.keep1 I.keep (Ne.symm ne_r_n11)) _ rfl rfl ldK
 ·exact sV fun L v w D N I=>ld_E (R_n12.keep1 I.keep (Ne.symm ne_r_n12)) _ rfl rfl ldK
 ·exact sV fun L v w D N I=>gMul _ _ rfl rfl (emul (I.val 3 (D 3 rfl)) (I.val 4 (D 4 rfl)) w)
 ·exact sV fun L v w D N I=>bd_FL _ _ rfl (I.val 2 (D 2 rfl)) (I.val 5 (D 5 rfl)) ldK
 ·exact sV fun L v w D N I=>ld_E (R_n10.keep1 I.keep (Ne.symm ne_r_n10)) _ rfl rfl ldK
 ·exact sV fun L v w D N I=>ld_E (R_n11.keep1 I.keep (Ne.symm ne_r_n11)) _ rfl rfl ldK
 ·exact sV fun L v w D N I=>gMul _ _ rfl rfl (emul (I.val 7 (D 7 rfl)) (I.val 8 (D 8 rfl)) w)
 ·exact sV fun L v w D N I=>ld_E (R_n9.keep1 I.keep (Ne.symm ne_r_n9)) _ rfl rfl ldK
 ·exact sV fun L v w D N I=>ld_E (R_n12.keep1 I.keep (Ne.symm ne_r_n12)) _ rfl rfl ldK
 ·exact sV fun L v w D N I=>gMul _ _ rfl rfl (emul (I.val 10 (D 10 rfl)) (I.val 11 (D 11 rfl)) w)
 ·exact sV fun L v w D N I=>bd_W _ _ _ rfl (I.val 6 (D 6 rfl)) (I.val 9 (D 9 rfl)) (I.val 12 (D 12 rfl)) ldK
 ·exact s_put 0 rfl rfl rfl rfl rfl hok fun L v w D I cs hR ho=>st_W hR (qaq ho) _ _ rfl rfl (I.val 13 (D 13 rfl)) fun _ c a b k=>⟨trivial,k,c,a,b⟩
 intro L v8 W8 hL hI
 replace R_bu:=R_bu.keep1 hI.keep ne_bu_r
 replace R_bv:=R_bv.keep1 hI.keep ne_bv_r
 replace R_n5:=R_n5.keep1 hI.keep (Ne.symm ne_r_n5)
 replace R_n6:=R_n6.keep1 hI.keep (Ne.symm ne_r_n6)
 replace R_n7:=R_n7.keep1 hI.keep (Ne.symm ne_r_n7)
 replace R_n8:=R_n8.keep1 hI.keep (Ne.symm ne_r_n8)
 replace R_n9:=R_n9.keep1 hI.keep (Ne.symm ne_r_n9)
 replace R_n10:=R_n10.keep1 hI.keep (Ne.symm ne_r_n10)
 replace R_n11:=R_n11.keep1 hI.keep (Ne.symm ne_r_n11)
 replace R_n12:=R_n12.keep1 hI.keep (Ne.symm ne_r_n12)
 replace R_r:=hI.new 0 rfl (hL 14 (by decide))
 replace lt_r:=ltk lt_r hI.keep.size
 replace lt_n8:=ltk lt_n8 hI.keep.size
 replace hx:=hx.keep1 hI.keep bs_r
 clear hI hL hok L
 simp only [putP,Act.put,zA,zB,zC]
 go_wp2
 replace q_z:=q_z.out
 rw [q_z0.out] at q_z
 obtain ⟨cs,hr,hv⟩:=R_r
 replace hv : isW (Value.agg (List.toArray cs)) ((e) * (f)) ((g) * (h)) ((f) * (g)) ((e) * (h)):=hv
 obtain ⟨fs,hu'⟩:=uWd
 refine bodyPost_ret (results_cell_row (p:=4) (ty:=105) rfl _ _ r 105 _ (0,0) _ rfl hr hu' rfl (by rw [List.size_toArray,qg0 hv];exact iWd)) rfl ?_
 exact ⟨_,rfl,⟨_,_,_,_,hv,Rep.plus hP hQ q_a.out q_b.out q_c.out q_z q_e.out q_f.out q_g.out q_h.out⟩,hx⟩
end Go.Proofs.YtgeihelkkhjjaaaGreatDoor
end
