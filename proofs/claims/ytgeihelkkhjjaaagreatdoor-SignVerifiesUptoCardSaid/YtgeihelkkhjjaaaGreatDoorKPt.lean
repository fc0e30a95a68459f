/-
  Texts of the lemmas below the claim, put together: Pt Tms.
-/
import Derived.Test.YtgeihelkkhjjaaaGreatDoorKCrvF
import Derived.Test.YtgeihelkkhjjaaaGreatDoorKRC
set_option linter.unusedSimpArgs false
set_option linter.unusedVariables false
set_option maxRecDepth 20000
set_option maxHeartbeats 8000000
section
namespace Go.Cv
open Go.RowKit
def qep (W : World) (n : Nat) : Option (Array Value):=match W.heap[n]? with | some (.cells c _ (0,0))=>if c.size = 64 then some c else none | _=>none
theorem qfg {W : World} {n : Nat} {c : Array Value} (h : qep W n = some c) : ∃ t,W.heap[n]? = some (.cells c t (0,0))∧c.size = 64:=by
 unfold qep at h
 split at h
 ·rename_i c' t hc
  split at h
  ·rename_i h32
   cases h
   exact ⟨t,hc,h32⟩
  ·cases h
 ·cases h
@[go_sem] theorem ptOpt_at {w : World} (c : Array Value) (t : TypeId) (n : Nat) (hn : n = w.heap.size) (hc : c.size = 64) : qep (w.alloc (.cells c t)) n = some c:=by
 subst hn
 unfold qep
 rw [heap_alloc_last]
 simp [hc]
@[go_sem] theorem ptOpt_past {w : World} (o : Obj) (n : Nat) (hn : n < w.heap.size) : qep (w.alloc o) n = qep w n:=by
 unfold qep
 rw [qc0 (qaa w o) hn]
@[go_sem] theorem ptOpt_grw {w : World} (x : Nat × Array Obj) (n : Nat) (hn : n < w.heap.size) : qep (grw w x) n = qep w n:=by
 unfold qep
 rw [qc0 (qad w x) hn]
@[go_sem] theorem ptOpt_drew (w : World) (n : Nat) : qep w.drew n = qep w n:=rfl
def rdP (W : World) (n : Nat) (f g : Nat→UInt8) : Prop:=qep W n = some (pc f g)
theorem rdP.lt {W : World} {n : Nat} {f g : Nat→UInt8} (h : rdP W n f g) : n < W.heap.size:=by
 obtain ⟨t,hc,_⟩:=qfg h
 exact (Array.getElem?_eq_some_iff.1 hc).1
theorem rdP.ext {w w' : World} {n : Nat} {f g : Nat→UInt8} (hx : Ext w w') (h : rdP w n f g) : rdP w' n f g:=by
 have hn:=h.lt
 unfold rdP qep at *
 rwa [qc0 hx hn]
theorem rdP_opt {W : World} {n : Nat} {f g : Nat→UInt8} (h : rdP W n f g) : qep W n = some (pc f g):=h
theorem rdP.new (w : World) (f g : Nat→UInt8) (T : TypeId) : rdP (w.alloc (.cells (pc f g) T)) w.heap.size f g:=ptOpt_at _ _ _ rfl (qb4 f g)
theorem rdP.new_ (w : World) (f g : Nat→UInt8) (T : TypeId) {n : Nat} (h : n = w.heap.size) : rdP (w.alloc (.cells (pc f g) T)) n f g:=h ▸ rdP.new w f g T
end Go.Cv
namespace Go.Cv.Grp
theorem neg_on_ {n : Nat} [NeZero n] (d x y : Fin n) (h : y * y - x * x = 1 + d * (x * x) * (y * y)) : y * y - (0 - x) * (0 - x) = 1 + d * ((0 - x) * (0 - x)) * (y * y):=by grind
def Pt.neg {n : Nat} [NeZero n] {C : Crv n} (P : Pt C) : Pt C:=⟨0 - P.x,P.y,neg_on_ C.d P.x P.y P.on⟩
theorem neg_x {n : Nat} [NeZero n] (x y i : Fin n) : (x * y + (0 - x) * y) * i = 0:=by grind
theorem neg_y {n : Nat} [NeZero n] (d x y : Fin n) (h : y * y - x * x = 1 + d * (x * x) * (y * y)) : y * y + x * (0 - x) = (1 - d * (x * (0 - x)) * (y * y)) * 1:=by grind
theorem Pt.add_neg {n : Nat} [NeZero n] {C : Crv n} (P : Pt C) : P.add P.neg = Pt.zero C:=by
 refine Pt.ext_ (neg_x P.x P.y _) ?_
 have h1:=C.ay_is P.on P.neg.on
 have h2:=C.den2 P.on P.neg.on
 refine C.cancel h2 ?_
 rw [show (P.add P.neg).y = C.ay P.x P.y P.neg.x P.neg.y from rfl]
 have h3:=neg_y C.d P.x P.y P.on
 have h4 : (1 - C.e P.x P.y P.neg.x P.neg.y) * C.ay P.x P.y P.neg.x P.neg.y = C.ay P.x P.y P.neg.x P.neg.y * (1 - C.e P.x P.y P.neg.x P.neg.y):=by
  generalize C.ay P.x P.y P.neg.x P.neg.y = a
  generalize 1 - C.e P.x P.y P.neg.x P.neg.y = b
  clear h1 h2 h3
  grind
 rw [h4,h1]
 exact h3
end Go.Cv.Grp
namespace Go.Cv
open Go.RowKit Go.Cv.Pr Go.Cv.Grp Go.Cv.Dig
theorem fb_0 : fb 0 = fun _=>0:=by
 funext i
 show nb 0 i = 0
 simp [nb]
theorem fb_1 : fb 1 = nb 1:=by
 show nb ((1 : F7).val) = nb 1
 rw [show (1 : F7).val = 1 from by decide]
end Go.Cv
namespace Go.Proofs.YtgeihelkkhjjaaaGreatDoor
open Go.RowKit Go.Cv
@[go_sem] theorem zero_pcells : (#[.int .u8 0,.int .u8 0,.int .u8 0,.int .u8 0,.int .u8 0,.int .u8 0,.int .u8 0,.int .u8 0,.int .u8 0,.int .u8 0,.int .u8 0,.int .u8 0,.int .u8 0,.int .u8 0,.int .u8 0,.int .u8 0,.int .u8 0,.int .u8 0,.int .u8 0,.int .u8 0,.int .u8 0,.int .u8 0,.int .u8 0,.int .u8 0,.int .u8 0,.int .u8 0,.int .u8 0,.int .u8 0,.int .u8 0,.int .u8 0,.int .u8 0,.int .u8 0,.int .u8 0,.int .u8 0,.int .u8 0,.int .u8 0,.int .u8 0,.int .u8 0,.int .u8 0,.int .u8 0,.int .u8 0,.int .u8 0,.int .u8 0,.int .u8 0,.int .u8 0,.int .u8 0,.int .u8 0,.int .u8 0,.int .u8 0,.int .u8 0,.int .u8 0,.int .u8 0,.int .u8 0,.int .u8 0,.int .u8 0,.int .u8 0,.int .u8 0,.int .u8 0,.int .u8 0,.int .u8 0,.int .u8 0,.int .u8 0,.int .u8 0,.int .u8 0] : Array Value) = pc (fun _=>0) (fun _=>0):=by rw [qp3];rfl
theorem qml (g : Nat→UInt8) (off : Nat) (z : Array Value) : Array.foldl (fun cs (x : Value × Nat)=>cs.setIfInBounds (off + x.2) x.1) z (qab g).zipIdx 0 32 = (z.toList.take off ++ ((qab g).toList.take (z.size - off) ++ z.toList.drop (off + 32))).toArray:=by
 have h:=qgq (qab g).toList 0 off z
 rw [← Array.toList_zipIdx,Array.foldl_toList] at h
 simpa using h
@[go_sem] theorem fold_y (f g k : Nat→UInt8) : Array.foldl (fun cs (x : Value × Nat)=>cs.setIfInBounds (32 + x.2) x.1) (pc f g) (qab k).zipIdx 0 32 = pc f k:=by
 rw [qml,qb4]
 unfold pc pcL
 congr 1
 rw [List.take_append_of_le_length (by simp),List.take_of_length_le (by simp),List.take_of_length_le (by simp),List.drop_of_length_le (by simp)]
 simp
@[go_sem] theorem fold_x (f g k : Nat→UInt8) : Array.foldl (fun cs (x : Value × Nat)=>cs.setIfInBounds x.2 x.1) (pc f g) (qab k).zipIdx 0 32 = pc k g:=by
 have h:=qml k 0 (pc f g)
 simp only [Nat.zero_add] at h
 rw [h,qb4]
 unfold pc pcL
 congr 1
 rw [List.take_of_length_le (l:=(qab k).toList) (by simp),List.drop_append_of_le_length (by simp),List.drop_of_length_le (by simp)]
 simp
noncomputable def ld64 (a : Addr) (W : World) : Result (Array Value):=(loadCellsFrom a 0 64 #[]).run Tryz.prog W
@[go_sem ↓ high] theorem run_ld64 (a : Addr) (W : World) : (loadCellsFrom a 0 64 #[]).run Tryz.prog W = ld64 a W:=rfl
noncomputable def ld64y (n : Nat) (W : World) : Result (Array Value):=ld64 ⟨n,0,none⟩ W
noncomputable def st64y (n : Nat) (f g : Nat→UInt8) (W : World) : Result Unit:=(storeCells ⟨n,0,none⟩ (pc f g).toList).run Tryz.prog W
@[go_sem] theorem ld64_eq (W : World) (n : Nat) : ld64 ⟨n,0,none⟩ W = (qep W n).elim (ld64y n W) (fun c=>.ok c W):=by
 cases h : qep W n with
 | none=>rfl
 | some c =>
  obtain ⟨t,hc,h64⟩:=qfg h
  have:=run_loadCells_list (P:=Tryz.prog) W ⟨n,0,none⟩ c.toList (fun j v hv=>by
   have hadd : (⟨n,0,none⟩ : Addr).add j = ⟨n,j,none⟩:=by unfold Addr.add;split <;> simp_all
   rw [hadd,cell_of_row _ _ j c t (0,0) hc]
   simpa using hv)
  have h2 : (loadCellsFrom ⟨n,0,none⟩ 0 64 #[]).run Tryz.prog W = .ok c W:=by simpa only [loadCells,h64,Array.length_toList,Array.toArray_toList] using this
  exact h2
@[go_sem ↓ high] theorem st64_eq (W : World) (n : Nat) (f g : Nat→UInt8) : (storeCells ⟨n,0,none⟩ (pc f g).toList).run Tryz.prog W = (qep W n).elim (st64y n f g W) (fun _=>.ok () (W.setRow n (pc f g))):=by
 cases h : qep W n with
 | none=>rfl
 | some c =>
  obtain ⟨t,hc,h64⟩:=qfg h
  have:=run_storeVar_row (P:=Tryz.prog) W n t 49 c (pc f g) hc (by rw [qb4];exact iPt) (by rw [qb4];exact h64) (qkk f g)
  have hi:=iPt
  cases hq : Tryz.prog.info? 49 with
  | none=>simp [hq] at hi
  | some i =>
   have hs : i.size = 64:=by simpa [hq] using hi
   have h3:=qb4 f g
   simpa [storeVar,sizeOf,typeInfo,hq,Value.cells,hs,h3] using this
attribute [go_sem] qb4
theorem qh1 (cs : Array Value) (f : Nat→UInt8) (off : Nat) (w : World) (h : cs.extract off (off + 32) = qab f) : (part 22 cs off).run Tryz.prog w = .ok (.agg (qab f)) w:=by
 have hi:=i22
 cases hq : Tryz.prog.info? 22 with
 | none=>simp [hq] at hi
 | some i =>
  have hs : i.size = 32:=by simpa [hq] using hi
  simp [part,isAgg,run_underlying u22,sizeOf,typeInfo,hq,hs,h]
theorem pc_x (f g : Nat→UInt8) : (pc f g).extract 0 (0 + 32) = qab f:=by
 rw [qip]
 apply Array.ext'
 simp
 exact List.take_of_length_le (by simp)
theorem pc_y (f g : Nat→UInt8) : (pc f g).extract 32 (32 + 32) = qab g:=by
 rw [qip]
 apply Array.ext'
 simp
 exact List.take_of_length_le (by simp)
theorem uPtF : Tryz.prog.underlying 49 = some (.struct (Tryz.prog.fieldsOf 49)):=by kernel_rfl
theorem hPtF : Tryz.prog.stoodInHeld 49 = false:=by kernel_rfl
theorem fPt : ((Tryz.prog.fieldsOf 49).toList.map fun f => (f.name == "_", f.type, f.offset)) = [(false, 22, 0), (false, 22, 32)] := by kernel_rfl
theorem equalP (f g k l : Nat→UInt8) (w : World) : (Op.equalIn 10000 49 (.agg (pc f g)) (.agg (pc k l))).run Tryz.prog w = .ok (beqb f k && beqb g l) w:=by
 rw [run_equalIn_struct w 9999 _ _ _ uPtF hPtF]
 have h:=fPt
 generalize (Tryz.prog.fieldsOf 49).toList = fs at h
 obtain ⟨a,fs,rfl⟩ : ∃ a t,fs = a :: t:=by cases fs with | nil=>simp at h | cons a t=>exact ⟨a,t,rfl⟩
 obtain ⟨b,fs,rfl⟩ : ∃ a t,fs = a :: t:=by cases fs with | nil=>simp at h | cons a t=>exact ⟨a,t,rfl⟩
 obtain rfl : fs = []:=by cases fs with | nil=>rfl | cons a t=>simp at h
 simp only [List.map_cons,List.map_nil,List.cons.injEq,Prod.mk.injEq,and_true] at h
 obtain ⟨⟨h1,h2,h3⟩,h4,h5,h6⟩:=h
 have n1 : a.name ≠ "_" := by simpa using h1
 have n2 : b.name ≠ "_" := by simpa using h4
 have e1 : ∀ (f k : Nat→UInt8),(Op.equalIn 9999 22 (.agg (qab f)) (.agg (qab k))).run Tryz.prog w = .ok (beqb f k) w:=fun f k=>by
  rw [qbl,qbl]
  exact run_equalIn_bytes w 9997 _ _ 32 u22 u5_ s5_ _ _ (qau f) (qau k)
 simp only [Op.eqFields,n1,n2,ne_eq,not_false_eq_true,if_true,h2,h3,h5,h6,Sem.run_bind,qh1 _ _ _ _ (pc_x _ _),qh1 _ _ _ _ (pc_y _ _),Result.andThen_ok,e1]
 cases q1 : beqb f k <;> cases q2 : beqb g l <;> simp [q1,q2,e1,qh1 _ _ _ _ (pc_y _ _)]
@[go_sem ↓ high] theorem eql_pc (f g k l : Nat→UInt8) (w : World) : (binOp .eql 49 (.agg (pc f g)) (.agg (pc k l))).run Tryz.prog w = .ok (.bool (beqb f k && beqb g l)) w:=by
 rw [run_eql_struct,equalP];rfl
@[go_sem ↓ high] theorem neq_pc (f g k l : Nat→UInt8) (w : World) : (binOp .neq 49 (.agg (pc f g)) (.agg (pc k l))).run Tryz.prog w = .ok (.bool (!(beqb f k && beqb g l))) w:=by
 rw [run_neq_struct,equalP];rfl
end Go.Proofs.YtgeihelkkhjjaaaGreatDoor
end
section
namespace Go.Cv
open Go.RowKit Go.Cv.Pr Go.Cv.Grp
theorem qa3 {P : Program} {w : World} {o : Oper} {ev : Operand→Value} {R : Value→World→Prop} (ty elem : TypeId) (x i : Operand) (ho : o.op = .indexAddr ty x i) (n k s len : Nat) (kd : IntKind) (hx : ev x = .pointer (some ⟨n,0,none⟩)) (hi : ev i = .int kd (k : Int))
  (hu : P.underlying ty = some (.array len elem)) (hk : k < len) (hs : (P.info? elem).map (·.size) = some s) (h : R (.pointer (some ⟨n,k * s,none⟩)) w) : qak P R ((execOp ev o).run P w):=by
 unfold execOp
 have hkI : (k : Int) < (len : Int):=by omega
 have hk0 : (0 : Int) ≤ (k : Int):=by omega
 have hadd : (⟨n,0,none⟩ : Addr).add (k * s) = ⟨n,k * s,none⟩:=by unfold Addr.add;split <;> simp_all
 cases hq : P.info? elem with
 | none=>simp [hq] at hs
 | some i =>
  have hs : i.size = s:=by simpa [hq] using hs
  simp [ho,Instr.indexAt,hx,hi,asIntOf,Instr.sureAddr,hk,run_underlying hu,Go.sizeOf,typeInfo,hq,hs,hkI,hk0,hadd]
  exact h
theorem qgu {P : Program} (w : World) (g k : Nat) (t ty : TypeId) (cs : List Value) (cells : Array Value) (hg : w.heap[g]? = some (.cells cs.toArray t (0,0))) (hi : (P.info? ty).map (·.size) = some cells.size) (hl : k + cells.size ≤ cs.length) (h1 : cells.all (·.oneCell') = true) :
  (storeVar ty ⟨g,k,none⟩ (.agg cells)).run P w = .ok () (w.setRow g (cs.take k ++ cells.toList ++ cs.drop (k + cells.size)).toArray):=by
 cases hq : P.info? ty with
 | none=>simp [hq] at hi
 | some i =>
  have hs : i.size = cells.size:=by simpa [hq] using hi
  have h:=run_storeCells_at (P:=P) g k t cells.toList 0 cs.toArray w hg (by simpa using hl) (fun v hv=>by
   rw [Array.all_eq_true'] at h1
   exact h1 v (by simpa using hv))
  simp only [Nat.add_zero,Array.length_toList] at h
  simp [storeVar,Go.sizeOf,typeInfo,hq,Value.cells,hs,h]

theorem qnm {P : Program} {w : World} {o : Oper} {ev : Operand→Value} {R : Value→World→Prop} (ty elem : TypeId) (x i : Operand) (ho : o.op = .index ty x i) (k len : Nat) (kd : IntKind) (cs : Array Value) (hx : ev x = .agg cs) (hi : ev i = .int kd (k : Int))
  (hu : P.underlying ty = some (.array len elem)) (hk : k < len) (hs : (P.info? elem).map (·.size) = some 1) (d : TypeDesc) (he : P.underlying elem = some d) (hd : (match d with | .struct _ | .array _ _=>true | _=>false) = false) (v : Value) (hv : cs[k]? = some v) (h : R v w) : qak P R ((execOp ev o).run P w):=by
 unfold execOp
 have hkI : (k : Int) < (len : Int):=by omega
 have hk0 : (0 : Int) ≤ (k : Int):=by omega
 have hagg : (isAgg elem).run P w = .ok false w:=by
  unfold isAgg
  rw [Sem.run_bind,run_underlying he w]
  cases d <;> simp_all
 cases hq : P.info? elem with
 | none=>simp [hq] at hs
 | some i =>
  have hs : i.size = 1:=by simpa [hq] using hs
  simp [ho,Instr.index,hx,hi,asIntOf,hk,run_underlying hu,Go.sizeOf,typeInfo,hq,hs,hkI,hk0,part,hagg,hv]
  exact h
theorem qdt {P : Program} {w : World} {o : Oper} {ev : Operand→Value} {R : Value→World→Prop} (ty : TypeId) (x y : Operand) (ho : o.op = .store ty x y) (n k : Nat) (cells : Array Value) (hx : ev x = .pointer (some ⟨n,k,none⟩)) (hy : ev y = .agg cells) {T : TypeId} {cs : List Value} (hR : Row w n T cs)
  (hi : (P.info? ty).map (·.size) = some cells.size) (hs : k + cells.size ≤ cs.length) (h1 : cells.all (·.oneCell') = true)
  (h : ∀ w',Row w' n T (cs.take k ++ cells.toList ++ cs.drop (k + cells.size))→Keep [n] w w'→R undef w') : qak P R ((execOp ev o).run P w):=by
 unfold execOp
 simp only [ho,hx,hy,Instr.storeAt,Instr.sureAddr,Sem.run_bind,Sem.run_pure,Result.andThen_ok,qgu w n k T ty cs cells hR hi hs h1]
 refine h _ ?_ ?_
 ·exact setRow_heap w n _ _ T (0,0) hR
 ·refine ⟨rfl,rfl,rfl,by simp [World.setRow],fun k _ hk=>?_⟩
  exact setRow_other w n k _ (by simpa using hk)
theorem qdu {P : Program} {w : World} {o : Oper} {ev : Operand→Value} {R : Value→World→Prop} (ty : TypeId) (x : Operand) (ho : o.op = .load ty x) (n k : Nat) (hx : ev x = .pointer (some ⟨n,k,none⟩)) {T : TypeId} {cs : List Value} (hR : Row w n T cs) (v : Value) (hv : cs[k]? = some v) (d : TypeDesc)
  (hu : P.underlying ty = some d) (hd : (match d with | .struct _ | .array _ _=>true | _=>false) = false) (h : R v w) : qak P R ((execOp ev o).run P w):=by
 have hc : w.cell? ⟨n,k,none⟩ = some v:=by
  unfold Row at hR
  rw [Lib.cell_of_heap hR]
  simpa using hv
 unfold execOp
 have hagg : (isAgg ty).run P w = .ok false w:=by
  unfold isAgg
  rw [Sem.run_bind,run_underlying hu w]
  cases d <;> simp_all
 simp only [ho,hx,Instr.loadAt,Instr.sureAddr,loadVar,Sem.run_bind,Sem.run_pure,Result.andThen_ok,hagg]
 simp [hc]
 exact h
theorem nib_hi (N b i : Nat) (h : N / 2 ^ (8 * i) % 256 = b) : N / 2 ^ (8 * i + 4) = 16 * (N / 2 ^ (8 * (i + 1))) + b / 16:=by
 have e1 : N / 2 ^ (8 * i + 4) = N / 2 ^ (8 * i) / 16:=by rw [Nat.pow_add,Nat.div_div_eq_div_mul]
 have e2 : N / 2 ^ (8 * (i + 1)) = N / 2 ^ (8 * i) / 256:=by rw [show 8 * (i + 1) = 8 * i + 8 from by omega,Nat.pow_add,Nat.div_div_eq_div_mul]
 rw [e1,e2,← h];omega
theorem nib_lo (N b i : Nat) (h : N / 2 ^ (8 * i) % 256 = b) : N / 2 ^ (8 * i) = 16 * (N / 2 ^ (8 * i + 4)) + b % 16:=by
 have e1 : N / 2 ^ (8 * i + 4) = N / 2 ^ (8 * i) / 16:=by rw [Nat.pow_add,Nat.div_div_eq_div_mul]
 rw [e1,← h];omega
theorem nb_Vt (f : Nat→UInt8) : ∀ i,i < 32→nb (V f) i = f i:=by
 intro i hi
 obtain ⟨k,hk⟩ : ∃ k,32 = i + (1 + k):=⟨31 - i,by omega⟩
 have h1 : V f = bsum f i + 2 ^ (8 * i) * bsum (fun j=>f (i + j)) (1 + k):=by
  unfold V
  rw [hk,qev]
 have h2:=qeu f i
 have h3 : V f / 2 ^ (8 * i) = bsum (fun j=>f (i + j)) (1 + k):=by
  rw [h1,Nat.add_mul_div_left _ _ (Nat.two_pow_pos _),Nat.div_eq_of_lt h2,Nat.zero_add]
 unfold nb
 rw [h3,qev]
 simp only [bsum]
 apply UInt8.toNat_inj.1
 have h4:=(f i).toNat_lt
 rw [UInt8.toNat_ofNat']
 simp only [Nat.add_zero,Nat.mul_zero,Nat.pow_zero,Nat.one_mul,Nat.zero_add,Nat.mul_one]
 omega
theorem V_byte (f : Nat→UInt8) {i : Nat} (hi : i < 32) : V f / 2 ^ (8 * i) % 256 = (f i).toNat:=by
 have h:=nb_Vt f i hi
 have h2:=congrArg UInt8.toNat h
 unfold nb at h2
 rw [UInt8.toNat_ofNat'] at h2
 exact h2
theorem qpz (N q : Nat) (P : P7) : ((((((Pt.mul N P).add (Pt.mul N P)).add ((Pt.mul N P).add (Pt.mul N P))).add (((Pt.mul N P).add (Pt.mul N P)).add ((Pt.mul N P).add (Pt.mul N P)))).add ((((Pt.mul N P).add (Pt.mul N P)).add ((Pt.mul N P).add (Pt.mul N P))).add (((Pt.mul N P).add (Pt.mul N P)).add ((Pt.mul N P).add (Pt.mul N P)))))).add (Pt.mul q P) = Pt.mul (16 * N + q) P:=by
 rw [qcq,qcq,qcq,qcq,Pt.mul_add]
 congr 2
 omega
theorem qf9 {f g : Nat→UInt8} (h : beqb f g = true) : qab f = qab g:=qbm ((qdm _ _).1 h)
end Go.Cv
namespace Go.Proofs.YtgeihelkkhjjaaaGreatDoor
open Go.RowKit Go.Cv Go.Cv.Pr Go.Cv.Grp
def isT (u : Value) (m : Nat) (P : P7) : Prop:=∃ cs : List Value,u = .agg cs.toArray∧cs.length = 256∧∀ j,j < m→isP (.agg ((cs.drop (16 * j)).take 16).toArray) (Pt.mul j P)
theorem qmb {cs : List Value} {m : Nat} {P : P7} (h : isT (.agg cs.toArray) m P) : cs.length = 256:=by
 obtain ⟨c,h1,h2,-⟩:=h
 injection h1 with h1
 have:=congrArg Array.toList h1
 simp only at this
 rw [this];exact h2
theorem isT_at {cs : List Value} {m : Nat} {P : P7} (h : isT (.agg cs.toArray) m P) {j : Nat} (hj : j < m) : isP (.agg ((cs.drop (16 * j)).take 16).toArray) (Pt.mul j P):=by
 obtain ⟨c,h1,h2,h3⟩:=h
 injection h1 with h1
 have:=congrArg Array.toList h1
 simp only at this
 rw [this];exact h3 j hj
theorem qnd {cs : List Value} (P : P7) (h : cs.length = 256) : isT (.agg cs.toArray) 0 P:=⟨cs,rfl,h,fun j hj=>absurd hj (by omega)⟩
theorem isT_put {cs c : List Value} {m : Nat} {P : P7} (h : isT (.agg cs.toArray) m P) (hm : m < 16) (hc : c.length = 16) (hP : isP (.agg c.toArray) (Pt.mul m P)) :
  isT (.agg (cs.take (16 * m) ++ c ++ cs.drop (16 * m + 16)).toArray) (m + 1) P:=by
 have hl:=qmb h
 refine ⟨_,rfl,by simp [hl,hc];omega,fun j hj=>?_⟩
 by_cases hjm : j = m
 ·subst hjm
  have e : ((cs.take (16 * j) ++ c ++ cs.drop (16 * j + 16)).drop (16 * j)).take 16 = c:=by
   rw [List.append_assoc,List.drop_append_of_le_length (by simp [hl];omega),List.drop_of_length_le (by simp;omega),List.nil_append,List.take_append_of_le_length (by omega),List.take_of_length_le (by omega)]
  rw [e];exact hP
 ·have e : ((cs.take (16 * m) ++ c ++ cs.drop (16 * m + 16)).drop (16 * j)).take 16 = (cs.drop (16 * j)).take 16:=by
   rw [List.append_assoc,List.drop_append_of_le_length (by simp [hl];omega),List.take_append_of_le_length (by simp [hl];omega),List.drop_take,List.take_take,Nat.min_eq_left (by omega)]
  rw [e];exact isT_at h (by omega)
theorem i5_ : (Tryz.prog.info? 5).map (·.size) = some 1:=by kernel_rfl
theorem uA2 : Tryz.prog.underlying 111 = some (.array 2 5):=by kernel_rfl
theorem uTab : Tryz.prog.underlying 106 = some (.array 16 105):=by kernel_rfl
section
variable {w : World} {o : Oper} {ev : Operand→Value} {R : Value→World→Prop} {n m : Nat} {P : P7}
theorem ld_T (hR : RV w n 106 (fun u=>isT u m P)) (j : Nat) (hj : j < m) (hm : m ≤ 16) (p : Operand) (ho : o.op = .load 105 p) (hx : ev p = .pointer (some ⟨n,j * 16,none⟩)) (h : ∀ u,isP u (Pt.mul j P)→R u w) : qak Tryz.prog R ((execOp ev o).run Tryz.prog w):=by
 obtain ⟨cs,h1,h2⟩:=hR
 obtain ⟨fs,hu⟩:=uWd
 have hl : ((cs.drop (j * 16)).take 16).length = 16:=by have:=qmb h2;simp;omega
 refine qa2 _ p ho n (j * 16) hx h1 ((cs.drop (j * 16)).take 16) (by rw [hl]) _ hu rfl (by rw [hl];exact iWd) (h _ ?_)
 rw [Nat.mul_comm]
 exact isT_at h2 hj
theorem st_T {cs : List Value} (hR : Row w n 106 cs) (ht : isT (.agg cs.toArray) m P) (hm : m < 16) (p q : Operand) (ho : o.op = .store 105 p q) (hx : ev p = .pointer (some ⟨n,m * 16,none⟩)) (hy : isP (ev q) (Pt.mul m P))
  (h : ∀ w' cs',Row w' n 106 cs'→isT (.agg (List.toArray cs')) (m + 1) P→Keep [n] w w'→R undef w') : qak Tryz.prog R ((execOp ev o).run Tryz.prog w):=by
 obtain ⟨X,Y,Z,T,hw,hr⟩:=hy
 obtain ⟨c,h1,h2,h3,h4⟩:=qeh hw
 have hl:=qmb ht
 refine qdt _ p q ho n (m * 16) c hx h1 hR (by rw [h2];exact iWd) (by omega) h3 fun w' hr' hk=>h w' _ hr' ?_ hk
 rw [h2,Nat.mul_comm]
 exact isT_put ht hm (by rw [Array.length_toList];exact h2) ⟨X,Y,Z,T,h4,hr⟩
end
theorem one_b : (#[.int .u8 1,.int .u8 0,.int .u8 0,.int .u8 0,.int .u8 0,.int .u8 0,.int .u8 0,.int .u8 0,.int .u8 0,.int .u8 0,.int .u8 0,.int .u8 0,.int .u8 0,.int .u8 0,.int .u8 0,.int .u8 0,.int .u8 0,.int .u8 0,.int .u8 0,.int .u8 0,.int .u8 0,.int .u8 0,.int .u8 0,.int .u8 0,.int .u8 0,.int .u8 0,.int .u8 0,.int .u8 0,.int .u8 0,.int .u8 0,.int .u8 0,.int .u8 0] : Array Value) = qab (nb 1):=by
 rw [qc5]
 kernel_rfl
theorem and15 (b : UInt8) : (b &&& 15).toNat = b.toNat % 16:=by
 rw [UInt8.toNat_and]
 exact Nat.and_two_pow_sub_one_eq_mod b.toNat 4
theorem qjx {w : World} {o : Oper} {ev : Operand→Value} {R : Value→World→Prop} {n : Nat} {f : Nat→UInt8} (hR : RV w n 22 (fun u=>u = .agg (qab f))) {m : Nat} (hm : m < 32) (p : Operand) (ho : o.op = .load 5 p) (hx : ev p = .pointer (some ⟨n,m * 1,none⟩)) (h : ∀ u,u = .int .u8 (n8 (f m))→R u w) : qak Tryz.prog R ((execOp ev o).run Tryz.prog w):=by
 obtain ⟨cs,h1,h2⟩:=hR
 rw [qgb h2] at h1
 refine qdu _ p ho n (m * 1) hx h1 (.int .u8 (n8 (f m))) ?_ _ u5_ rfl (h _ rfl)
 rw [Nat.mul_one,Array.getElem?_toList]
 exact qbp f hm
theorem qo9 {f g : Nat→UInt8} {P : P7} {m : Nat} (hPx : tf (V f) = P.x) (hPy : tf (V g) = P.y) (h : (beqb f (fun _=>0) && beqb g (nb 1)) = true) : Pt.mul m P = P∧pc f g = pc (fb P.x) (fb P.y):=by
 rw [Bool.and_eq_true] at h
 have e1 : qab f = qab (fun _=>0):=qf9 h.1
 have e2 : qab g = qab (nb 1):=qf9 h.2
 have v1 : V f = V (fb 0):=qb8 32 (by rw [fb_0];exact (qdm _ _).1 h.1)
 have v2 : V g = V (fb 1):=qb8 32 (by rw [fb_1];exact (qdm _ _).1 h.2)
 rw [v1,qbw] at hPx
 rw [v2,qbw] at hPy
 have hP : P = Pt.zero C7:=Pt.ext_ hPx.symm hPy.symm
 refine ⟨by rw [hP,Pt.mul_zero],?_⟩
 rw [← hPx,← hPy,fb_0,fb_1,qip,qip,e1,e2]
def qty : List Plan:=[⟨[],[]⟩,⟨[],[]⟩,⟨[],[]⟩,⟨[],[]⟩]
def qt5 : List Plan:=[⟨[],[]⟩,⟨[],[]⟩,⟨[1],[(18,1)]⟩,⟨[0,1,2],[(17,0),(19,2)]⟩]
def qt7 : List Plan:=[⟨[],[]⟩]
def qt8 : List Plan:=[⟨[],[]⟩,⟨[0],[]⟩,⟨[0,1],[(22,0),(23,1)]⟩]
def qt0 : List Plan:=[⟨[],[]⟩,⟨[],[]⟩,⟨[0,1],[(37,0),(8,1)]⟩]
def qt1 : List Plan:=[⟨[],[]⟩,⟨[0],[(42,0)]⟩,⟨[0,1],[(43,1)]⟩,⟨[0,1,2],[(44,2)]⟩,⟨[],[]⟩,⟨[4],[(46,4)]⟩,⟨[4,5],[(47,5)]⟩,⟨[4,5,6],[(48,6)]⟩,⟨[0,1,2,3,4,5,6,7],[(45,3),(49,7)]⟩,⟨[],[]⟩]
def qt2 : List Plan:=[⟨[],[]⟩,⟨[0],[(53,0)]⟩]
def qt3 : List Plan:=[⟨[],[]⟩,⟨[0],[(54,0)]⟩,⟨[0,1],[(55,1)]⟩,⟨[0,1,2],[(56,2)]⟩,⟨[0,1,2,3],[(57,3)]⟩,⟨[],[]⟩,⟨[5],[(59,5)]⟩,⟨[5,6],[(60,6)]⟩,⟨[0,1,2,3,4,5,6,7],[(58,4),(61,7)]⟩,⟨[0,1,2,3,4,5,6,7,8],[(62,8)]⟩]
def qt6 : List Plan:=[⟨[],[]⟩,⟨[0],[(21,0)]⟩,⟨[0,1],[]⟩]
def qtz : List Plan:=[⟨[],[]⟩,⟨[],[]⟩,⟨[1],[(29,1)]⟩,⟨[1,2],[(30,2)]⟩,⟨[1,2,3],[(31,3)]⟩,⟨[],[]⟩,⟨[5],[(33,5)]⟩,⟨[1,2,3,4,5,6],[(32,4),(34,6)]⟩,⟨[0,1,2,3,4,5,6,7],[(28,0)]⟩,⟨[0,1,2,3,4,5,6,7,8],[(35,7),(36,8)]⟩]
def qt4 : List Plan:=[⟨[],[]⟩,⟨[0],[(64,0)]⟩,⟨[0,1],[(65,1)]⟩,⟨[0,1,2],[]⟩]
theorem times_on {f g k : Nat→UInt8} {P : P7} (hPx : tf (V f) = P.x) (hPy : tf (V g) = P.y) (w : World) :
  Calls Tryz.prog 43 #[.agg (qab k),.agg (pc f g)] w fun e w'=>e = .returned (.tuple #[.agg (pc (fb (Pt.mul (V k) P).x) (fb (Pt.mul (V k) P).y)),.nilIface])∧Ext w w':=by
 obtain ⟨N,hN⟩ : ∃ N,N = V k:=⟨_,rfl⟩
 have hNb : Hid (∀ i,i < 32→N / 2 ^ (8 * i) % 256 = (k i).toNat):=Lib.hid (fun i hi=>by rw [hN];exact V_byte k hi)
 have hN0 : N / 2 ^ (8 * 32) = 0:=Nat.div_eq_of_lt (by rw [hN];exact qeu k 32)
 rw [← hN]
 clear hN
 obtain ⟨c,hc⟩ : ∃ c,c = (beqb f (fun _=>0) && beqb g (nb 1)):=⟨_,rfl⟩
 have hc' : Hid (c = true→Pt.mul N P = P∧pc f g = pc (fb P.x) (fb P.y)):=Lib.hid (fun h=>qo9 hPx hPy (hc ▸ h))
 replace hc:=Lib.hid hc
 go_enter Tryz.func43,Tryz.ntmps43
 have hx : Ext w w:=Ext.refl w
 go_upto_region 0 with fail
 have hok : TrsOk [] w.heap.size ([(tk (some 0) 0 22 (none) (fun u=>u = .agg (qab (k))) (fun _=>True)),(tk (some 1) 0 49 (none) (fun u=>u = .agg (pc (f) (g))) (fun _=>True)),(tk (some 2) 0 49 (none) (sz 64) (fun _=>True))] : List Trk):=⟨by simp [tk],by simp [tk],by simp [tk],by simp [tk]⟩
 refine qac (Inv [] (fun j u=>match j with | 3=>u = .nilIface | _=>True) [(tk (some 0) 0 22 (none) (fun u=>u = .agg (qab (k))) (fun _=>True)),(tk (some 1) 0 49 (none) (fun u=>u = .agg (pc (f) (g))) (fun _=>True)),(tk (some 2) 0 49 (none) (sz 64) (fun _=>True))] w) qty [(2,0),(3,1),(4,2),(5,3)] 66 rfl (by kernel_rfl) (Inv.start0 hok (by simp)) ⟨?_,?_,?_,?_,trivial⟩ ?_
 ·exact qa7 0 rfl rfl rfl rfl rfl hok fun L v w D I=>qba (qab k).toList rfl rfl ⟨trivial,rfl,_,rfl,rfl⟩
 ·exact qa7 1 rfl rfl rfl rfl rfl hok fun L v w D I=>qba (pcL f g) rfl rfl ⟨trivial,rfl,_,rfl,rfl⟩
 ·exact qa7 2 rfl rfl rfl rfl rfl hok fun L v w D I=>qj3 rfl fun c h=>⟨trivial,rfl,c,rfl,qa5 c h⟩
 ·exact sV fun L v w D N I=>⟨rfl,Ext.refl _⟩
 intro L v1 W1 hL hI
 obtain ⟨bk,hb_bk,lo_bk,R_bk⟩:=hI.made0 0 rfl (hL 0 (by decide))
 obtain ⟨b,hb_b,lo_b,R_b⟩:=hI.made0 1 rfl (hL 1 (by decide))
 obtain ⟨r,hb_r,lo_r,R_r⟩:=hI.made0 2 rfl (hL 2 (by decide))
 have ne_bk_r:=hI.two 0 2 rfl rfl rfl rfl rfl (hL 0 (by decide)) (hL 2 (by decide)) hb_bk hb_r
 have ne_b_r:=hI.two 1 2 rfl rfl rfl rfl rfl (hL 1 (by decide)) (hL 2 (by decide)) hb_b hb_r
 have bs_r:=Nat.le_trans hx.size lo_r
 have lt_r:=R_r.lt
 replace hx:=hx.trans hI.keep.to_ext
 have hs_5_0 : (v1 3) = .nilIface:=hI.val 3 (hL 3 (by decide))
 clear hI hL hok L
 simp only [putP,Act.put,zA,zB,zC,hb_bk,hb_b,hb_r,hs_5_0]
 have h : C7.on (tf (V f)) (tf (V g)):=by rw [hPx,hPy];exact P.on
 go_upto_region 3 with (first | ((with_reducible refine qo1 R_b ?_ (.tmp 3) ?_ ?_ ?_);rfl;rfl;rfl) | (go_at_call 70;(with_reducible refine (qic h _).mono ?_);rintro e wq ⟨rfl,hxq⟩))
 replace R_bk:=R_bk.ext hxq
 replace R_b:=R_b.ext hxq
 replace R_r:=R_r.ext hxq
 replace lt_r:=Nat.lt_of_lt_of_le lt_r hxq.size
 replace hx:=hx.trans hxq
 have hok : TrsOk [] wq.heap.size ([] : List Trk):=⟨by simp [tk],by simp [tk],by simp [tk],by simp [tk]⟩
 refine qac (Inv [] (fun j u=>match j with | 0=>u = .agg (pc (f) (g)) | 1=>u = .agg (qab (nb 1)) | 2=>u = .agg (pc (fun _=>0) (nb 1)) | 3=>u = .bool (beqb (f) (fun _=>0) && beqb (g) (nb 1)) | _=>True) [] wq) qt5 [(17,0),(18,1),(19,2),(20,3)] 66 rfl (by kernel_rfl) (Inv.start0 hok (by simp)) ⟨?_,?_,?_,?_,trivial⟩ ?_
 ·exact sV fun L v w D N I=>ld_P (R_b.keep0 I.keep) _ rfl rfl ldK
 ·intro L v w hL hD hC hI
  refine ⟨fun _=>?_,fun hw=>by cases hw⟩
  refine hI.val_step hL (by simp) ?_
  rw [show qaj qt5 1 = [] from rfl]
  exact qej _ _ rfl #[.int .u8 1,.int .u8 0,.int .u8 0,.int .u8 0,.int .u8 0,.int .u8 0,.int .u8 0,.int .u8 0,.int .u8 0,.int .u8 0,.int .u8 0,.int .u8 0,.int .u8 0,.int .u8 0,.int .u8 0,.int .u8 0,.int .u8 0,.int .u8 0,.int .u8 0,.int .u8 0,.int .u8 0,.int .u8 0,.int .u8 0,.int .u8 0,.int .u8 0,.int .u8 0,.int .u8 0,.int .u8 0,.int .u8 0,.int .u8 0,.int .u8 0,.int .u8 0] (by kernel_rfl) ⟨congrArg Value.agg one_b,Ext.refl _⟩
 ·intro L v w hL hD hC hI
  refine ⟨fun _=>?_,fun hw=>by cases hw⟩
  have h1 : (v 1) = .agg (qab (nb 1)):=hI.val 1 (hD 1 (by decide))
  refine hI.val_step hL (by simp) ?_
  rw [show qaj qt5 2 = [(18,1)] from rfl]
  simp only [putP,Act.put,zA,zB,zC,h1]
  go_simp
  exact ⟨rfl,Ext.refl _⟩
 ·intro L v w hL hD hC hI
  refine ⟨fun _=>?_,fun hw=>by cases hw⟩
  have h0 : (v 0) = .agg (pc (f) (g)):=hI.val 0 (hD 0 (by decide))
  have h2 : (v 2) = .agg (pc (fun _=>0) (nb 1)):=hI.val 2 (hD 2 (by decide))
  refine hI.val_step hL (by simp) ?_
  rw [show qaj qt5 3 = [(17,0),(19,2)] from rfl]
  simp only [putP,Act.put,zA,zB,zC,h0,h2]
  go_simp
  exact ⟨rfl,Ext.refl _⟩
 intro L v2 W2 hL hI
 replace R_bk:=R_bk.keep0 hI.keep
 replace R_b:=R_b.keep0 hI.keep
 replace R_r:=R_r.keep0 hI.keep
 replace lt_r:=ltk lt_r hI.keep.size
 replace hx:=hx.trans hI.keep.to_ext
 have hs_20_3 : (v2 3) = .bool (beqb (f) (fun _=>0) && beqb (g) (nb 1)):=hI.val 3 (hL 3 (by decide))
 clear hI hL hok L
 simp only [putP,Act.put,zA,zB,zC,hs_20_3]
 simp only [← hc.out]
 clear hc hs_20_3
 cases hcc : c
 rotate_left
 ·obtain ⟨cx1,cx2⟩:=hc'.out hcc
  clear hcc hc'
  go_upto_region 4 with fail
  have hok : TrsOk [r] W2.heap.size ([(tk (none) r 49 (some 1) (sz 64) (fun u=>u = .agg (pc (f) (g))))] : List Trk):=⟨by simp [tk,R_r.lt],by simp [tk],by simp [tk],by simp [tk]⟩
  refine qac (Inv [r] (fun j u=>match j with | 0=>u = .agg (pc (f) (g)) | 2=>u = .nilIface | _=>True) [(tk (none) r 49 (some 1) (sz 64) (fun u=>u = .agg (pc (f) (g))))] W2) qt6 [(21,0),(5,2)] 66 rfl (by kernel_rfl) (Inv.start0 hok (by
    simp only [zD,zE,zF,zG,zH]
    exact fun _=>R_r)) ⟨?_,?_,?_,trivial⟩ ?_
  ·exact sV fun L v w D N I=>ld_P (R_b.keep1 I.keep ne_b_r) _ rfl rfl ldK
  ·exact s_put 0 rfl rfl rfl rfl rfl hok fun L v w D I cs hR ho=>st_P hR (qaq ho) _ _ rfl rfl (I.val 0 (D 0 rfl)) fun _ c a b k=>⟨trivial,k,c,a,b⟩
  ·exact sV fun L v w D N I=>⟨rfl,Ext.refl _⟩
  intro L v3 W3 hL hI
  replace R_bk:=R_bk.keep1 hI.keep ne_bk_r
  replace R_b:=R_b.keep1 hI.keep ne_b_r
  replace R_r:=hI.new 0 rfl (hL 1 (by decide))
  replace lt_r:=ltk lt_r hI.keep.size
  replace hx:=hx.keep1 hI.keep bs_r
  have hs_5_4 : (v3 2) = .nilIface:=hI.val 2 (hL 2 (by decide))
  clear hI hL hok L
  simp only [putP,Act.put,zA,zB,zC,hs_5_4]
  go_wp2
  refine bodyPost_ret (qbf rfl _ R_r rfl) rfl ?_
  refine ⟨?_,hx⟩
  rw [cx1,← cx2]
  rfl
 ·clear hc' hcc
  go_upto_region 5 with fail
  have hok : TrsOk [] W2.heap.size ([(tk (some 0) 0 106 (none) (fun u=>isT u (0) (P)) (fun _=>True))] : List Trk):=⟨by simp [tk],by simp [tk],by simp [tk],by simp [tk]⟩
  refine qac (Inv [] (fun _ _=>True) [(tk (some 0) 0 106 (none) (fun u=>isT u (0) (P)) (fun _=>True))] W2) qt7 [(6,0)] 66 rfl (by kernel_rfl) (Inv.start0 hok (by simp)) ⟨?_,trivial⟩ ?_
  ·intro L v w hL hD hC hI
   refine ⟨fun _=>?_,fun hw=>by cases hw⟩
   refine Inv.alloc_step hok hI hL (tk (some 0) 0 106 (none) (fun u=>isT u (0) (P)) (fun _=>True)) (by simp) rfl (by simp) (by intro s hs;cases hs) ?_
   rw [show qaj qt7 0 = [] from rfl]
   go_simp
   first | exact ⟨rfl,_,rfl,qnd _ rfl⟩ | exact ⟨trivial,rfl,_,rfl,qnd _ rfl⟩
  intro L v3 W3 hL hI
  obtain ⟨t,hb_t,lo_t,R_t⟩:=hI.made0 0 rfl (hL 0 (by decide))
  have lt_bk:=R_bk.lt
  have lt_b:=R_b.lt
  replace R_bk:=R_bk.keep0 hI.keep
  replace R_b:=R_b.keep0 hI.keep
  replace R_r:=R_r.keep0 hI.keep
  have ne_bk_t:=Nat.ne_of_lt (Nat.lt_of_lt_of_le lt_bk lo_t)
  have ne_b_t:=Nat.ne_of_lt (Nat.lt_of_lt_of_le lt_b lo_t)
  have ne_r_t:=Nat.ne_of_lt (Nat.lt_of_lt_of_le lt_r lo_t)
  replace lt_r:=ltk lt_r hI.keep.size
  have bs_t:=Nat.le_trans hx.size lo_t
  have lt_t:=R_t.lt
  replace hx:=hx.trans hI.keep.to_ext
  clear hI hL hok L
  simp only [putP,Act.put,zA,zB,zC,hb_t]
  go_upto_region 6 with fail
  have hok : TrsOk [t] W3.heap.size ([(tk (none) t 106 (some 2) (fun u=>isT u (0) (P)) (fun u=>isT u (0 + 1) (P)))] : List Trk):=⟨by simp [tk,R_t.lt],by simp [tk],by simp [tk],by simp [tk]⟩
  refine qac (Inv [t] (fun j u=>match j with | 0=>isP u ((Pt.zero C7)) | 1=>u = .pointer (some ⟨t,0,none⟩) | _=>True) [(tk (none) t 106 (some 2) (fun u=>isT u (0) (P)) (fun u=>isT u (0 + 1) (P)))] W3) qt8 [(22,0),(23,1)] 66 rfl (by kernel_rfl) (Inv.start0 hok (by
    simp only [zD,zE,zF,zG,zH]
    exact fun _=>R_t)) ⟨?_,?_,?_,trivial⟩ ?_
  ·intro L v w hL hD hC hI
   refine ⟨fun _=>?_,fun hw=>by cases hw⟩
   refine hI.val_step hL (by simp) ?_
   rw [show qaj qt8 0 = [] from rfl]
   refine qei _ _ _ _ rfl rfl Tryz.func71 (by kernel_rfl) (by kernel_rfl) ?_
   refine Calls.mono (qiz w) ?_
   rintro e w' ⟨r,rfl,hr,hx⟩
   exact ⟨r,rfl,⟨_,_,_,_,hr,Rep.zero C7⟩,hx⟩
  ·intro L v w hL hD hC hI
   refine ⟨fun _=>?_,fun hw=>by cases hw⟩
   refine hI.val_step hL (by simp) ?_
   rw [show qaj qt8 1 = [] from rfl]
   exact qa3 _ _ _ _ rfl t 0 16 16 .i64 rfl rfl uTab (by decide) iWd ⟨rfl,Ext.refl _⟩
  ·intro L v w hL hD hC hI
   refine ⟨fun _=>?_,fun hw=>by cases hw⟩
   have h0 : isP (v 0) ((Pt.zero C7)):=hI.val 0 (hD 0 (by decide))
   have h1 : (v 1) = .pointer (some ⟨t,0,none⟩):=hI.val 1 (hD 1 (by decide))
   refine Inv.store_step hok hI hL (tk (none) t 106 (some 2) (fun u=>isT u (0) (P)) (fun u=>isT u (0 + 1) (P))) (by simp) rfl (by simp) (by intro k hk;cases hk) ?_
   intro n cs hb hR hold
   change n = t at hb
   subst hb
   rw [show qaj qt8 2 = [(22,0),(23,1)] from rfl]
   exact st_T hR hold (by decide) _ _ rfl h1 h0 fun w' cs' hr he hk=>⟨trivial,hk,cs',hr,he⟩
  intro L v4 W4 hL hI
  replace R_bk:=R_bk.keep1 hI.keep ne_bk_t
  replace R_b:=R_b.keep1 hI.keep ne_b_t
  replace R_r:=R_r.keep1 hI.keep ne_r_t
  replace R_t:=hI.new 0 rfl (hL 2 (by decide))
  replace lt_r:=ltk lt_r hI.keep.size
  replace lt_t:=ltk lt_t hI.keep.size
  replace hx:=hx.keep1 hI.keep bs_t
  clear hI hL hok L
  simp only [putP,Act.put,zA,zB,zC]
  go_upto_region 8 with fail
  go_loopw [7] (fun v7 wr=>∃ i : Nat,1 ≤ i∧i ≤ 16∧v7 = .int .i64 (i : Int)∧RV wr t 106 (fun u=>isT u i P)∧Keep [t] W4 wr) (fun v7 _=>16 - (intOf v7).toNat)
  case atStart=>exact ⟨1,by decide,by decide,rfl,R_t,Keep.refl _ _⟩
  case round =>
   clear R_t
   obtain ⟨i,hi1,hi16,rfl,R_t,hK⟩:=hrel
   replace R_bk:=R_bk.keep hK (by simp [ne_bk_t,Ne.symm ne_bk_t])
   replace R_b:=R_b.keep hK (by simp [ne_b_t,Ne.symm ne_b_t])
   replace R_r:=R_r.keep hK (by simp [ne_r_t,Ne.symm ne_r_t])
   replace lt_r:=Nat.lt_of_lt_of_le lt_r hK.size
   replace lt_t:=Nat.lt_of_lt_of_le lt_t hK.size
   replace hx:=Ext.keep_ hx hK (by simpa using bs_t)
   by_cases hi : i < 16
   ·have hiI : (i : Int) < 16:=by omega
    obtain ⟨jj,hj⟩ : ∃ jj,i = jj + 1:=⟨i - 1,by omega⟩
    have hj16 : jj < 16:=by omega
    have hji : jj < i:=by omega
    have hv1 : IntKind.i64.wrap ((i : Int) - 1) = (jj : Int):=by rw [IntWalk.i64_in _ (by omega)];omega
    have hv2 : IntKind.i64.wrap ((i : Int) + 1) = (i : Int) + 1:=IntWalk.i64_in _ (by omega)
    have hms : 16 - (i + 1) < 16 - i:=by omega
    replace hj:=Lib.hid hj
    go_upto_region 10 with fail
    have hok : TrsOk [t] wr.heap.size ([(tk (none) t 106 (some 9) (fun u=>isT u (i) (P)) (fun u=>isT u (i + 1) (P)))] : List Trk):=⟨by simp [tk,R_t.lt],by simp [tk],by simp [tk],by simp [tk]⟩
    refine qag (Inv [t] (fun j u=>match j with | 0=>u = .int .i64 (i : Int) | 1=>u = .int .i64 (i : Int) | 2=>u = .int .i64 (jj : Int) | 3=>u = .pointer (some ⟨t,jj * 16,none⟩) | 4=>isP u (Pt.mul jj P) | 5=>u = .agg (pc (f) (g)) | 6=>isP u (P) | 7=>isP u ((Pt.mul jj P).add (P)) | 8=>u = .pointer (some ⟨t,i * 16,none⟩) | _=>True) [(tk (none) t 106 (some 9) (fun u=>isT u (i) (P)) (fun u=>isT u (i + 1) (P)))] wr) qtz [(28,0),(29,1),(30,2),(31,3),(32,4),(33,5),(34,6),(35,7),(36,8)] 66 (by kernel_rfl) rfl (by kernel_rfl) (Inv.start hok (by
      simp only [zD,zE,zF,zG,zH]
      exact fun _=>R_t)) ⟨?_,?_,?_,?_,?_,?_,?_,?_,?_,?_,trivial⟩ ?_
    ·exact sV fun L v w D N I=>⟨rfl,Ext.refl _⟩
    ·exact sV fun L v w D N I=>⟨rfl,Ext.refl _⟩
    ·intro L v w hL hD hC hI
     refine ⟨fun _=>?_,fun hw=>by cases hw⟩
     have h1 : (v 1) = .int .i64 (i : Int):=hI.val 1 (hD 1 (by decide))
     refine hI.val_step hL (by simp) ?_
     rw [show qaj qtz 2 = [(29,1)] from rfl]
     simp only [putP,Act.put,zA,zB,zC,h1]
     go_simp
     exact ⟨rfl,Ext.refl _⟩
    ·intro L v w hL hD hC hI
     refine ⟨fun _=>?_,fun hw=>by cases hw⟩
     have h2 : (v 2) = .int .i64 (jj : Int):=hI.val 2 (hD 2 (by decide))
     refine hI.val_step hL (by simp) ?_
     rw [show qaj qtz 3 = [(30,2)] from rfl]
     exact qa3 _ _ _ _ rfl t jj 16 16 .i64 rfl h2 uTab hj16 iWd ⟨rfl,Ext.refl _⟩
    ·intro L v w hL hD hC hI
     refine ⟨fun _=>?_,fun hw=>by cases hw⟩
     have h3 : (v 3) = .pointer (some ⟨t,jj * 16,none⟩):=hI.val 3 (hD 3 (by decide))
     refine hI.val_step hL (by simp) ?_
     rw [show qaj qtz 4 = [(31,3)] from rfl]
     exact ld_T (hI.row_old (tk (none) t 106 (some 9) (fun u=>isT u (i) (P)) (fun u=>isT u (i + 1) (P))) (by simp) rfl (by intro s hs;cases hs;exact qia hC hL (by decide))) jj hji hi16 _ rfl h3 fun u hu=>⟨hu,Ext.refl _⟩
    ·exact sV fun L v w D N I=>ld_P (R_b.keep1 I.keep ne_b_t) _ rfl rfl ldK
    ·exact sV fun L v w D N I=>gcIn _ _ rfl rfl (qai (cinP hPx hPy w) (ar1 (I.val 5 (D 5 rfl))))
    ·exact sV fun L v w D N I=>gPlus _ _ rfl rfl (qgd (I.val 4 (D 4 rfl)) (I.val 6 (D 6 rfl)) w)
    ·intro L v w hL hD hC hI
     refine ⟨fun _=>?_,fun hw=>by cases hw⟩
     have h0 : (v 0) = .int .i64 (i : Int):=hI.val 0 (hD 0 (by decide))
     refine hI.val_step hL (by simp) ?_
     rw [show qaj qtz 8 = [(28,0)] from rfl]
     exact qa3 _ _ _ _ rfl t i 16 16 .i64 rfl h0 uTab hi iWd ⟨rfl,Ext.refl _⟩
    ·intro L v w hL hD hC hI
     refine ⟨fun _=>?_,fun hw=>by cases hw⟩
     have h7 : isP (v 7) ((Pt.mul jj P).add (P)):=hI.val 7 (hD 7 (by decide))
     have h8 : (v 8) = .pointer (some ⟨t,i * 16,none⟩):=hI.val 8 (hD 8 (by decide))
     refine Inv.store_step hok hI hL (tk (none) t 106 (some 9) (fun u=>isT u (i) (P)) (fun u=>isT u (i + 1) (P))) (by simp) rfl (by simp) (by intro k hk;cases hk) ?_
     intro n cs hb hR hold
     change n = t at hb
     subst hb
     rw [show qaj qtz 9 = [(35,7),(36,8)] from rfl]
     exact st_T hR hold hi _ _ rfl h8 (by rw [hj.out];exact h7) fun w' cs' hr he hk=>⟨trivial,hk,cs',hr,he⟩
    intro L v5 W5 hL hI
    replace R_bk:=R_bk.keep1 hI.keep ne_bk_t
    replace R_b:=R_b.keep1 hI.keep ne_b_t
    replace R_r:=R_r.keep1 hI.keep ne_r_t
    replace R_t:=hI.new 0 rfl (hL 9 (by decide))
    replace lt_r:=ltk lt_r hI.keep.size
    replace lt_t:=ltk lt_t hI.keep.size
    have hk10:=hI.keep
    replace hx:=hx.keep1 hI.keep bs_t
    have hs_28_10 : (v5 0) = .int .i64 (i : Int):=hI.val 0 (hL 0 (by decide))
    have hs_29_10 : (v5 1) = .int .i64 (i : Int):=hI.val 1 (hL 1 (by decide))
    clear hI hL hok L
    simp only [putP,Act.put,zA,zB,zC,hs_28_10,hs_29_10]
    have hK2:=hK.same hk10
    clear hK hk10
    go_wp2
    exact ⟨⟨i + 1,by omega,hi,by go_num,R_t,⟨hK2.os,hK2.tape,hK2.output,hK2.size,hK2.keep⟩⟩,by simpa [intOf] using hms⟩
   ·obtain rfl : i = 16:=by omega
    clear hK hi hi1 hi16
    go_upto_region 11 with fail
    have hok : TrsOk [] wr.heap.size ([(tk (some 1) 0 105 (some 2) (sz 16) (fun u=>isP u ((Pt.zero C7))))] : List Trk):=⟨by simp [tk],by simp [tk],by simp [tk],by simp [tk]⟩
    refine qac (Inv [] (fun j u=>match j with | 0=>isP u ((Pt.zero C7)) | _=>True) [(tk (some 1) 0 105 (some 2) (sz 16) (fun u=>isP u ((Pt.zero C7))))] wr) qt0 [(37,0),(8,1)] 66 rfl (by kernel_rfl) (Inv.start0 hok (by simp)) ⟨?_,?_,?_,trivial⟩ ?_
    ·intro L v w hL hD hC hI
     refine ⟨fun _=>?_,fun hw=>by cases hw⟩
     refine hI.val_step hL (by simp) ?_
     rw [show qaj qt0 0 = [] from rfl]
     refine qei _ _ _ _ rfl rfl Tryz.func71 (by kernel_rfl) (by kernel_rfl) ?_
     refine Calls.mono (qiz w) ?_
     rintro e w' ⟨r,rfl,hr,hx⟩
     exact ⟨r,rfl,⟨_,_,_,_,hr,Rep.zero C7⟩,hx⟩
    ·exact qa7 0 rfl rfl rfl rfl rfl hok fun L v w D I=>al_W rfl fun c h=>⟨trivial,rfl,c,rfl,qa5 c h⟩
    ·exact qcv 0 1 rfl rfl rfl rfl rfl rfl hok fun L v w D I n cs hb hR ho=>st_Pw hR (qaq ho) _ _ rfl hb (I.val 0 (D 0 rfl)) fun _ c a b k=>⟨trivial,k,c,a,b⟩
    intro L v5 W5 hL hI
    obtain ⟨o,hb_o,lo_o,R_o⟩:=hI.made 0 rfl (hL 1 (by decide)) (hL 2 (by decide))
    have lt_bk:=R_bk.lt
    have lt_b:=R_b.lt
    replace R_bk:=R_bk.keep0 hI.keep
    replace R_b:=R_b.keep0 hI.keep
    replace R_r:=R_r.keep0 hI.keep
    replace R_t:=R_t.keep0 hI.keep
    have ne_bk_o:=Nat.ne_of_lt (Nat.lt_of_lt_of_le lt_bk lo_o)
    have ne_b_o:=Nat.ne_of_lt (Nat.lt_of_lt_of_le lt_b lo_o)
    have ne_r_o:=Nat.ne_of_lt (Nat.lt_of_lt_of_le lt_r lo_o)
    have ne_t_o:=Nat.ne_of_lt (Nat.lt_of_lt_of_le lt_t lo_o)
    replace lt_r:=ltk lt_r hI.keep.size
    replace lt_t:=ltk lt_t hI.keep.size
    have bs_o:=Nat.le_trans hx.size lo_o
    have lt_o:=R_o.lt
    replace hx:=hx.trans hI.keep.to_ext
    clear hI hL hok L
    simp only [putP,Act.put,zA,zB,zC,hb_o]
    go_upto_region 13 with fail
    go_loopw [9] (fun v9 wr=>∃ (i : Nat) (x : Int),i ≤ 32∧v9 = .int .i64 x∧Hid (x + 1 = (i : Int))∧RV wr o 105 (fun u=>isP u (Pt.mul (N / 2 ^ (8 * i)) P))∧Keep [o] W5 wr) (fun v9 _=>(intOf v9 + 1).toNat)
    case atStart=>exact ⟨32,_,by decide,rfl,Lib.hid (by decide),by rw [hN0];exact R_o,Keep.refl _ _⟩
    case round =>
     clear R_o
     obtain ⟨i,x,hi,rfl,hxi,R_o,hK⟩:=hrel
     replace R_bk:=R_bk.keep hK (by simp [ne_bk_o,Ne.symm ne_bk_o])
     replace R_b:=R_b.keep hK (by simp [ne_b_o,Ne.symm ne_b_o])
     replace R_r:=R_r.keep hK (by simp [ne_r_o,Ne.symm ne_r_o])
     replace R_t:=R_t.keep hK (by simp [ne_t_o,Ne.symm ne_t_o])
     replace lt_r:=Nat.lt_of_lt_of_le lt_r hK.size
     replace lt_t:=Nat.lt_of_lt_of_le lt_t hK.size
     replace lt_o:=Nat.lt_of_lt_of_le lt_o hK.size
     replace hx:=Ext.keep_ hx hK (by simpa using bs_o)
     have hxi':=hxi.out
     by_cases hx0 : 0 ≤ x
     ·obtain ⟨m,rfl⟩ : ∃ m : Nat,x = (m : Int):=⟨x.toNat,by omega⟩
      obtain rfl : i = m + 1:=by omega
      have hm : m < 32:=by omega
      have hmI : (m : Int) < 32:=by omega
      have hv1 : IntKind.i64.wrap ((m : Int) - 1) = (m : Int) - 1:=IntWalk.i64_in _ (by omega)
      have hbyte:=hNb.out m hm
      have hx4 : Hid ((m : Int) - 1 + 1 = (m : Int)):=Lib.hid (by omega)
      clear hxi hxi'
      generalize hkb : k m = b8 at hbyte
      have hb1 : (b8 >>> 4).toNat = b8.toNat / 16:=qc9 b8 4 (by decide)
      have hb2 : (b8 &&& 15).toNat = b8.toNat % 16:=and15 b8
      have hbl:=b8.toNat_lt
      have e1 : N / 2 ^ (8 * m + 4) = 16 * (N / 2 ^ (8 * (m + 1))) + (b8 >>> 4).toNat:=by rw [hb1];exact nib_hi N b8.toNat m hbyte
      have e2 : N / 2 ^ (8 * m) = 16 * (N / 2 ^ (8 * m + 4)) + (b8 &&& 15).toNat:=by rw [hb2];exact nib_lo N b8.toNat m hbyte
      have l1 : (b8 >>> 4).toNat < 16:=by rw [hb1];omega
      have l2 : (b8 &&& 15).toNat < 16:=by rw [hb2];omega
      obtain ⟨N0,hN0'⟩ : ∃ n,n = N / 2 ^ (8 * (m + 1)):=⟨_,rfl⟩
      obtain ⟨N1,hN1⟩ : ∃ n,n = N / 2 ^ (8 * m + 4):=⟨_,rfl⟩
      obtain ⟨N2,hN2⟩ : ∃ n,n = N / 2 ^ (8 * m):=⟨_,rfl⟩
      rw [← hN1,← hN0'] at e1
      rw [← hN2,← hN1] at e2
      rw [← hN0'] at R_o
      replace e1:=Lib.hid e1
      replace e2:=Lib.hid e2
      replace hN2:=Lib.hid hN2
      clear hb1 hb2 hbl hbyte hN0' hN1
      go_upto_region 15 with fail
      have hok : TrsOk [] wr.heap.size ([] : List Trk):=⟨by simp [tk],by simp [tk],by simp [tk],by simp [tk]⟩
      refine qag (Inv [] (fun j u=>match j with | 0=>u = .int .i64 (m : Int) | 1=>u = .pointer (some ⟨bk,m * 1,none⟩) | 2=>u = .int .u8 (n8 b8) | 3=>u = .int .u8 (n8 (b8 >>> 4)) | 4=>u = .int .i64 (m : Int) | 5=>u = .pointer (some ⟨bk,m * 1,none⟩) | 6=>u = .int .u8 (n8 b8) | 7=>u = .int .u8 (n8 (b8 &&& 15)) | 8=>u = .agg #[.int .u8 (n8 (b8 >>> 4)),.int .u8 (n8 (b8 &&& 15))] | 9=>u = .int .i64 0 | _=>True) [] wr) qt1 [(42,0),(43,1),(44,2),(45,3),(46,4),(47,5),(48,6),(49,7),(50,8),(51,9)] 66 (by kernel_rfl) rfl (by kernel_rfl) (Inv.start hok (by simp)) ⟨?_,?_,?_,?_,?_,?_,?_,?_,?_,?_,trivial⟩ ?_
      ·exact sV fun L v w D N I=>⟨rfl,Ext.refl _⟩
      ·intro L v w hL hD hC hI
       refine ⟨fun _=>?_,fun hw=>by cases hw⟩
       have h0 : (v 0) = .int .i64 (m : Int):=hI.val 0 (hD 0 (by decide))
       refine hI.val_step hL (by simp) ?_
       rw [show qaj qt1 1 = [(42,0)] from rfl]
       exact qa3 _ _ _ _ rfl bk m 1 32 .i64 rfl h0 u22 hm i5_ ⟨rfl,Ext.refl _⟩
      ·intro L v w hL hD hC hI
       refine ⟨fun _=>?_,fun hw=>by cases hw⟩
       have h1 : (v 1) = .pointer (some ⟨bk,m * 1,none⟩):=hI.val 1 (hD 1 (by decide))
       refine hI.val_step hL (by simp) ?_
       rw [show qaj qt1 2 = [(43,1)] from rfl]
       exact qjx (R_bk.keep hI.keep (by simp)) hm _ rfl h1 fun u hu=>⟨hu.trans (by rw [hkb]),Ext.refl _⟩
      ·intro L v w hL hD hC hI
       refine ⟨fun _=>?_,fun hw=>by cases hw⟩
       have h2 : (v 2) = .int .u8 (n8 b8):=hI.val 2 (hD 2 (by decide))
       refine hI.val_step hL (by simp) ?_
       rw [show qaj qt1 3 = [(44,2)] from rfl]
       simp only [putP,Act.put,zA,zB,zC,h2]
       go_simp
       exact ⟨rfl,Ext.refl _⟩
      ·exact sV fun L v w D N I=>⟨rfl,Ext.refl _⟩
      ·intro L v w hL hD hC hI
       refine ⟨fun _=>?_,fun hw=>by cases hw⟩
       have h4 : (v 4) = .int .i64 (m : Int):=hI.val 4 (hD 4 (by decide))
       refine hI.val_step hL (by simp) ?_
       rw [show qaj qt1 5 = [(46,4)] from rfl]
       exact qa3 _ _ _ _ rfl bk m 1 32 .i64 rfl h4 u22 hm i5_ ⟨rfl,Ext.refl _⟩
      ·intro L v w hL hD hC hI
       refine ⟨fun _=>?_,fun hw=>by cases hw⟩
       have h5 : (v 5) = .pointer (some ⟨bk,m * 1,none⟩):=hI.val 5 (hD 5 (by decide))
       refine hI.val_step hL (by simp) ?_
       rw [show qaj qt1 6 = [(47,5)] from rfl]
       exact qjx (R_bk.keep hI.keep (by simp)) hm _ rfl h5 fun u hu=>⟨hu.trans (by rw [hkb]),Ext.refl _⟩
      ·intro L v w hL hD hC hI
       refine ⟨fun _=>?_,fun hw=>by cases hw⟩
       have h6 : (v 6) = .int .u8 (n8 b8):=hI.val 6 (hD 6 (by decide))
       refine hI.val_step hL (by simp) ?_
       rw [show qaj qt1 7 = [(48,6)] from rfl]
       simp only [putP,Act.put,zA,zB,zC,h6]
       go_simp
       exact ⟨rfl,Ext.refl _⟩
      ·intro L v w hL hD hC hI
       refine ⟨fun _=>?_,fun hw=>by cases hw⟩
       have h3 : (v 3) = .int .u8 (n8 (b8 >>> 4)):=hI.val 3 (hD 3 (by decide))
       have h7 : (v 7) = .int .u8 (n8 (b8 &&& 15)):=hI.val 7 (hD 7 (by decide))
       refine hI.val_step hL (by simp) ?_
       rw [show qaj qt1 8 = [(45,3),(49,7)] from rfl]
       simp only [putP,Act.put,zA,zB,zC,h3,h7]
       go_simp
       exact ⟨rfl,Ext.refl _⟩
      ·intro L v w hL hD hC hI
       refine ⟨fun _=>?_,fun hw=>by cases hw⟩
       refine hI.val_step hL (by simp) ?_
       rw [show qaj qt1 9 = [] from rfl]
       exact ⟨rfl,Ext.refl _⟩
      intro L v6 W6 hL hI
      replace R_bk:=R_bk.keep0 hI.keep
      replace R_b:=R_b.keep0 hI.keep
      replace R_r:=R_r.keep0 hI.keep
      replace R_t:=R_t.keep0 hI.keep
      replace R_o:=R_o.keep0 hI.keep
      replace lt_r:=ltk lt_r hI.keep.size
      replace lt_t:=ltk lt_t hI.keep.size
      replace lt_o:=ltk lt_o hI.keep.size
      have hk15:=hI.keep
      replace hx:=hx.trans hI.keep.to_ext
      have hs_42_15 : (v6 0) = .int .i64 (m : Int):=hI.val 0 (hL 0 (by decide))
      have hs_46_15 : (v6 4) = .int .i64 (m : Int):=hI.val 4 (hL 4 (by decide))
      have hs_50_15 : (v6 8) = .agg #[.int .u8 (n8 (b8 >>> 4)),.int .u8 (n8 (b8 &&& 15))]:=hI.val 8 (hL 8 (by decide))
      have hs_51_15 : (v6 9) = .int .i64 0:=hI.val 9 (hL 9 (by decide))
      clear hI hL hok L
      simp only [putP,Act.put,zA,zB,zC,hs_42_15,hs_46_15,hs_50_15,hs_51_15]
      replace hK:=hK.ext hk15.to_ext
      clear hk15
      go_upto_region 16 with fail
      go_loopw [51] (fun v51 wr=>∃ q : Int,v51 = .int .i64 q∧((q = 0∧RV wr o 105 (fun u=>isP u (Pt.mul N0 P))) ∨ (q = 1∧RV wr o 105 (fun u=>isP u (Pt.mul N1 P))) ∨ (q = 2∧RV wr o 105 (fun u=>isP u (Pt.mul N2 P))))∧Keep [o] W6 wr) (fun v51 _=>2 - (intOf v51).toNat)
      case atStart=>exact ⟨0,rfl,.inl ⟨rfl,R_o⟩,Keep.refl _ _⟩
      case round =>
       clear R_o
       obtain ⟨q,rfl,hq,hK3⟩:=hrel
       replace R_bk:=R_bk.keep hK3 (by simp [ne_bk_o,Ne.symm ne_bk_o])
       replace R_b:=R_b.keep hK3 (by simp [ne_b_o,Ne.symm ne_b_o])
       replace R_r:=R_r.keep hK3 (by simp [ne_r_o,Ne.symm ne_r_o])
       replace R_t:=R_t.keep hK3 (by simp [ne_t_o,Ne.symm ne_t_o])
       replace lt_r:=Nat.lt_of_lt_of_le lt_r hK3.size
       replace lt_t:=Nat.lt_of_lt_of_le lt_t hK3.size
       replace lt_o:=Nat.lt_of_lt_of_le lt_o hK3.size
       replace hx:=Ext.keep_ hx hK3 (by simpa using bs_o)
       rcases hq with ⟨rfl,R_o⟩ | ⟨rfl,R_o⟩ | ⟨rfl,R_o⟩
       ·skip
        go_upto_region 17 with fail
        have hok : TrsOk [] wr.heap.size ([] : List Trk):=⟨by simp [tk],by simp [tk],by simp [tk],by simp [tk]⟩
        refine qac (Inv [] (fun j u=>match j with | 0=>u = .int .u8 (n8 (b8 >>> 4)) | 1=>u = .int .u8 (n8 (b8 >>> 4)) | _=>True) [] wr) qt2 [(53,0),(11,1)] 66 rfl (by kernel_rfl) (Inv.start0 hok (by simp)) ⟨?_,?_,trivial⟩ ?_
        ·intro L v w hL hD hC hI
         refine ⟨fun _=>?_,fun hw=>by cases hw⟩
         refine hI.val_step hL (by simp) ?_
         rw [show qaj qt2 0 = [] from rfl]
         exact qnm _ _ _ _ rfl 0 2 .i64 _ rfl rfl uA2 (by decide) i5_ _ u5_ rfl _ rfl ⟨rfl,Ext.refl _⟩
        ·exact sV fun L v w D N I=>⟨(I.val 0 (D 0 rfl)),Ext.refl _⟩
        intro L v7 W7 hL hI
        replace R_bk:=R_bk.keep0 hI.keep
        replace R_b:=R_b.keep0 hI.keep
        replace R_r:=R_r.keep0 hI.keep
        replace R_t:=R_t.keep0 hI.keep
        replace R_o:=R_o.keep0 hI.keep
        replace lt_r:=ltk lt_r hI.keep.size
        replace lt_t:=ltk lt_t hI.keep.size
        replace lt_o:=ltk lt_o hI.keep.size
        have hk17:=hI.keep
        replace hx:=hx.trans hI.keep.to_ext
        have hs_11_17 : (v7 1) = .int .u8 (n8 (b8 >>> 4)):=hI.val 1 (hL 1 (by decide))
        clear hI hL hok L
        simp only [putP,Act.put,zA,zB,zC,hs_11_17]
        replace hK3:=hK3.ext hk17.to_ext
        clear hk17
        go_upto_region 18 with fail
        have hok : TrsOk [o] W7.heap.size ([(tk (none) o 105 (some 9) (fun u=>isP u (Pt.mul N0 P)) (fun u=>isP u ((((((Pt.mul N0 P).add (Pt.mul N0 P)).add ((Pt.mul N0 P).add (Pt.mul N0 P))).add (((Pt.mul N0 P).add (Pt.mul N0 P)).add ((Pt.mul N0 P).add (Pt.mul N0 P)))).add ((((Pt.mul N0 P).add (Pt.mul N0 P)).add ((Pt.mul N0 P).add (Pt.mul N0 P))).add (((Pt.mul N0 P).add (Pt.mul N0 P)).add ((Pt.mul N0 P).add (Pt.mul N0 P))))).add (Pt.mul (b8 >>> 4).toNat P))))] : List Trk):=⟨by simp [tk,R_o.lt],by simp [tk],by simp [tk],by simp [tk]⟩
        refine qag (Inv [o] (fun j u=>match j with | 0=>isP u (Pt.mul N0 P) | 1=>isP u ((Pt.mul N0 P).add (Pt.mul N0 P)) | 2=>isP u (((Pt.mul N0 P).add (Pt.mul N0 P)).add ((Pt.mul N0 P).add (Pt.mul N0 P))) | 3=>isP u ((((Pt.mul N0 P).add (Pt.mul N0 P)).add ((Pt.mul N0 P).add (Pt.mul N0 P))).add (((Pt.mul N0 P).add (Pt.mul N0 P)).add ((Pt.mul N0 P).add (Pt.mul N0 P)))) | 4=>isP u (((((Pt.mul N0 P).add (Pt.mul N0 P)).add ((Pt.mul N0 P).add (Pt.mul N0 P))).add (((Pt.mul N0 P).add (Pt.mul N0 P)).add ((Pt.mul N0 P).add (Pt.mul N0 P)))).add ((((Pt.mul N0 P).add (Pt.mul N0 P)).add ((Pt.mul N0 P).add (Pt.mul N0 P))).add (((Pt.mul N0 P).add (Pt.mul N0 P)).add ((Pt.mul N0 P).add (Pt.mul N0 P))))) | 5=>u = .int .u8 (n8 (b8 >>> 4)) | 6=>u = .pointer (some ⟨t,(b8 >>> 4).toNat * 16,none⟩) | 7=>isP u (Pt.mul (b8 >>> 4).toNat P) | 8=>isP u ((((((Pt.mul N0 P).add (Pt.mul N0 P)).add ((Pt.mul N0 P).add (Pt.mul N0 P))).add (((Pt.mul N0 P).add (Pt.mul N0 P)).add ((Pt.mul N0 P).add (Pt.mul N0 P)))).add ((((Pt.mul N0 P).add (Pt.mul N0 P)).add ((Pt.mul N0 P).add (Pt.mul N0 P))).add (((Pt.mul N0 P).add (Pt.mul N0 P)).add ((Pt.mul N0 P).add (Pt.mul N0 P))))).add (Pt.mul (b8 >>> 4).toNat P)) | _=>True) [(tk (none) o 105 (some 9) (fun u=>isP u (Pt.mul N0 P)) (fun u=>isP u ((((((Pt.mul N0 P).add (Pt.mul N0 P)).add ((Pt.mul N0 P).add (Pt.mul N0 P))).add (((Pt.mul N0 P).add (Pt.mul N0 P)).add ((Pt.mul N0 P).add (Pt.mul N0 P)))).add ((((Pt.mul N0 P).add (Pt.mul N0 P)).add ((Pt.mul N0 P).add (Pt.mul N0 P))).add (((Pt.mul N0 P).add (Pt.mul N0 P)).add ((Pt.mul N0 P).add (Pt.mul N0 P))))).add (Pt.mul (b8 >>> 4).toNat P))))] W7) qt3 [(54,0),(55,1),(56,2),(57,3),(58,4),(59,5),(60,6),(61,7),(62,8)] 66 (by kernel_rfl) rfl (by kernel_rfl) (Inv.start hok (by
          simp only [zD,zE,zF,zG,zH]
          exact fun _=>R_o)) ⟨?_,?_,?_,?_,?_,?_,?_,?_,?_,?_,trivial⟩ ?_
        ·exact sV fun L v w D N I=>ld_Pw (I.old 0 rfl (N 9 rfl)) _ rfl rfl ldK
        ·exact sV fun L v w D N I=>gDbl _ _ rfl rfl (qcd (I.val 0 (D 0 rfl)) w)
        ·exact sV fun L v w D N I=>gDbl _ _ rfl rfl (qcd (I.val 1 (D 1 rfl)) w)
        ·exact sV fun L v w D N I=>gDbl _ _ rfl rfl (qcd (I.val 2 (D 2 rfl)) w)
        ·exact sV fun L v w D N I=>gDbl _ _ rfl rfl (qcd (I.val 3 (D 3 rfl)) w)
        ·exact sV fun L v w D N I=>⟨rfl,Ext.refl _⟩
        ·intro L v w hL hD hC hI
         refine ⟨fun _=>?_,fun hw=>by cases hw⟩
         have h5 : (v 5) = .int .u8 (n8 (b8 >>> 4)):=hI.val 5 (hD 5 (by decide))
         refine hI.val_step hL (by simp) ?_
         rw [show qaj qt3 6 = [(59,5)] from rfl]
         exact qa3 _ _ _ _ rfl t (b8 >>> 4).toNat 16 16 .u8 rfl h5 uTab l1 iWd ⟨rfl,Ext.refl _⟩
        ·intro L v w hL hD hC hI
         refine ⟨fun _=>?_,fun hw=>by cases hw⟩
         have h6 : (v 6) = .pointer (some ⟨t,(b8 >>> 4).toNat * 16,none⟩):=hI.val 6 (hD 6 (by decide))
         refine hI.val_step hL (by simp) ?_
         rw [show qaj qt3 7 = [(60,6)] from rfl]
         exact ld_T (R_t.keep hI.keep (by simp [ne_t_o,Ne.symm ne_t_o])) (b8 >>> 4).toNat l1 (by decide) _ rfl h6 fun u hu=>⟨hu,Ext.refl _⟩
        ·exact sV fun L v w D N I=>gPlus _ _ rfl rfl (qgd (I.val 4 (D 4 rfl)) (I.val 7 (D 7 rfl)) w)
        ·exact s_put 0 rfl rfl rfl rfl rfl hok fun L v w D I cs hR ho=>st_Pw hR (qqz ho) _ _ rfl rfl (I.val 8 (D 8 rfl)) fun _ c a b k=>⟨trivial,k,c,a,b⟩
        intro L v8 W8 hL hI
        replace R_bk:=R_bk.keep1 hI.keep ne_bk_o
        replace R_b:=R_b.keep1 hI.keep ne_b_o
        replace R_r:=R_r.keep1 hI.keep ne_r_o
        replace R_t:=R_t.keep1 hI.keep ne_t_o
        replace R_o:=hI.new 0 rfl (hL 9 (by decide))
        replace lt_r:=ltk lt_r hI.keep.size
        replace lt_t:=ltk lt_t hI.keep.size
        replace lt_o:=ltk lt_o hI.keep.size
        have hk18:=hI.keep
        replace hx:=hx.keep1 hI.keep bs_o
        have hs_59_18 : (v8 5) = .int .u8 (n8 (b8 >>> 4)):=hI.val 5 (hL 5 (by decide))
        clear hI hL hok L
        simp only [putP,Act.put,zA,zB,zC,hs_59_18]
        have hK4:=hK3.same hk18
        clear hK3 hk18
        rw [qpz,← e1.out] at R_o
        go_wp2
        exact ⟨⟨1,by first | rfl | go_num,.inr (.inl ⟨rfl,R_o⟩),⟨hK4.os,hK4.tape,hK4.output,hK4.size,hK4.keep⟩⟩,by simp [intOf]⟩
       ·skip
        go_upto_region 17 with fail
        have hok : TrsOk [] wr.heap.size ([] : List Trk):=⟨by simp [tk],by simp [tk],by simp [tk],by simp [tk]⟩
        refine qac (Inv [] (fun j u=>match j with | 0=>u = .int .u8 (n8 (b8 &&& 15)) | 1=>u = .int .u8 (n8 (b8 &&& 15)) | _=>True) [] wr) qt2 [(53,0),(11,1)] 66 rfl (by kernel_rfl) (Inv.start0 hok (by simp)) ⟨?_,?_,trivial⟩ ?_
        ·intro L v w hL hD hC hI
         refine ⟨fun _=>?_,fun hw=>by cases hw⟩
         refine hI.val_step hL (by simp) ?_
         rw [show qaj qt2 0 = [] from rfl]
         exact qnm _ _ _ _ rfl 1 2 .i64 _ rfl rfl uA2 (by decide) i5_ _ u5_ rfl _ rfl ⟨rfl,Ext.refl _⟩
        ·exact sV fun L v w D N I=>⟨(I.val 0 (D 0 rfl)),Ext.refl _⟩
        intro L v7 W7 hL hI
        replace R_bk:=R_bk.keep0 hI.keep
        replace R_b:=R_b.keep0 hI.keep
        replace R_r:=R_r.keep0 hI.keep
        replace R_t:=R_t.keep0 hI.keep
        replace R_o:=R_o.keep0 hI.keep
        replace lt_r:=ltk lt_r hI.keep.size
        replace lt_t:=ltk lt_t hI.keep.size
        replace lt_o:=ltk lt_o hI.keep.size
        have hk17:=hI.keep
        replace hx:=hx.trans hI.keep.to_ext
        have hs_11_17 : (v7 1) = .int .u8 (n8 (b8 &&& 15)):=hI.val 1 (hL 1 (by decide))
        clear hI hL hok L
        simp only [putP,Act.put,zA,zB,zC,hs_11_17]
        replace hK3:=hK3.ext hk17.to_ext
        clear hk17
        go_upto_region 18 with fail
        have hok : TrsOk [o] W7.heap.size ([(tk (none) o 105 (some 9) (fun u=>isP u (Pt.mul N1 P)) (fun u=>isP u ((((((Pt.mul N1 P).add (Pt.mul N1 P)).add ((Pt.mul N1 P).add (Pt.mul N1 P))).add (((Pt.mul N1 P).add (Pt.mul N1 P)).add ((Pt.mul N1 P).add (Pt.mul N1 P)))).add ((((Pt.mul N1 P).add (Pt.mul N1 P)).add ((Pt.mul N1 P).add (Pt.mul N1 P))).add (((Pt.mul N1 P).add (Pt.mul N1 P)).add ((Pt.mul N1 P).add (Pt.mul N1 P))))).add (Pt.mul (b8 &&& 15).toNat P))))] : List Trk):=⟨by simp [tk,R_o.lt],by simp [tk],by simp [tk],by simp [tk]⟩
        refine qag (Inv [o] (fun j u=>match j with | 0=>isP u (Pt.mul N1 P) | 1=>isP u ((Pt.mul N1 P).add (Pt.mul N1 P)) | 2=>isP u (((Pt.mul N1 P).add (Pt.mul N1 P)).add ((Pt.mul N1 P).add (Pt.mul N1 P))) | 3=>isP u ((((Pt.mul N1 P).add (Pt.mul N1 P)).add ((Pt.mul N1 P).add (Pt.mul N1 P))).add (((Pt.mul N1 P).add (Pt.mul N1 P)).add ((Pt.mul N1 P).add (Pt.mul N1 P)))) | 4=>isP u (((((Pt.mul N1 P).add (Pt.mul N1 P)).add ((Pt.mul N1 P).add (Pt.mul N1 P))).add (((Pt.mul N1 P).add (Pt.mul N1 P)).add ((Pt.mul N1 P).add (Pt.mul N1 P)))).add ((((Pt.mul N1 P).add (Pt.mul N1 P)).add ((Pt.mul N1 P).add (Pt.mul N1 P))).add (((Pt.mul N1 P).add (Pt.mul N1 P)).add ((Pt.mul N1 P).add (Pt.mul N1 P))))) | 5=>u = .int .u8 (n8 (b8 &&& 15)) | 6=>u = .pointer (some ⟨t,(b8 &&& 15).toNat * 16,none⟩) | 7=>isP u (Pt.mul (b8 &&& 15).toNat P) | 8=>isP u ((((((Pt.mul N1 P).add (Pt.mul N1 P)).add ((Pt.mul N1 P).add (Pt.mul N1 P))).add (((Pt.mul N1 P).add (Pt.mul N1 P)).add ((Pt.mul N1 P).add (Pt.mul N1 P)))).add ((((Pt.mul N1 P).add (Pt.mul N1 P)).add ((Pt.mul N1 P).add (Pt.mul N1 P))).add (((Pt.mul N1 P).add (Pt.mul N1 P)).add ((Pt.mul N1 P).add (Pt.mul N1 P))))).add (Pt.mul (b8 &&& 15).toNat P)) | _=>True) [(tk (none) o 105 (some 9) (fun u=>isP u (Pt.mul N1 P)) (fun u=>isP u ((((((Pt.mul N1 P).add (Pt.mul N1 P)).add ((Pt.mul N1 P).add (Pt.mul N1 P))).add (((Pt.mul N1 P).add (Pt.mul N1 P)).add ((Pt.mul N1 P).add (Pt.mul N1 P)))).add ((((Pt.mul N1 P).add (Pt.mul N1 P)).add ((Pt.mul N1 P).add (Pt.mul N1 P))).add (((Pt.mul N1 P).add (Pt.mul N1 P)).add ((Pt.mul N1 P).add (Pt.mul N1 P))))).add (Pt.mul (b8 &&& 15).toNat P))))] W7) qt3 [(54,0),(55,1),(56,2),(57,3),(58,4),(59,5),(60,6),(61,7),(62,8)] 66 (by kernel_rfl) rfl (by kernel_rfl) (Inv.start hok (by
          simp only [zD,zE,zF,zG,zH]
          exact fun _=>R_o)) ⟨?_,?_,?_,?_,?_,?_,?_,?_,?_,?_,trivial⟩ ?_
        ·exact sV fun L v w D N I=>ld_Pw (I.old 0 rfl (N 9 rfl)) _ rfl rfl ldK
        ·exact sV fun L v w D N I=>gDbl _ _ rfl rfl (qcd (I.val 0 (D 0 rfl)) w)
        ·exact sV fun L v w D N I=>gDbl _ _ rfl rfl (qcd (I.val 1 (D 1 rfl)) w)
        ·exact sV fun L v w D N I=>gDbl _ _ rfl rfl (qcd (I.val 2 (D 2 rfl)) w)
        ·exact sV fun L v w D N I=>gDbl _ _ rfl rfl (qcd (I.val 3 (D 3 rfl)) w)
        ·exact sV fun L v w D N I=>⟨rfl,Ext.refl _⟩
        ·intro L v w hL hD hC hI
         refine ⟨fun _=>?_,fun hw=>by cases hw⟩
         have h5 : (v 5) = .int .u8 (n8 (b8 &&& 15)):=hI.val 5 (hD 5 (by decide))
         refine hI.val_step hL (by simp) ?_
         rw [show qaj qt3 6 = [(59,5)] from rfl]
         exact qa3 _ _ _ _ rfl t (b8 &&& 15).toNat 16 16 .u8 rfl h5 uTab l2 iWd ⟨rfl,Ext.refl _⟩
        ·intro L v w hL hD hC hI
         refine ⟨fun _=>?_,fun hw=>by cases hw⟩
         have h6 : (v 6) = .pointer (some ⟨t,(b8 &&& 15).toNat * 16,none⟩):=hI.val 6 (hD 6 (by decide))
         refine hI.val_step hL (by simp) ?_
         rw [show qaj qt3 7 = [(60,6)] from rfl]
         exact ld_T (R_t.keep hI.keep (by simp [ne_t_o,Ne.symm ne_t_o])) (b8 &&& 15).toNat l2 (by decide) _ rfl h6 fun u hu=>⟨hu,Ext.refl _⟩
        ·exact sV fun L v w D N I=>gPlus _ _ rfl rfl (qgd (I.val 4 (D 4 rfl)) (I.val 7 (D 7 rfl)) w)
        ·exact s_put 0 rfl rfl rfl rfl rfl hok fun L v w D I cs hR ho=>st_Pw hR (qqz ho) _ _ rfl rfl (I.val 8 (D 8 rfl)) fun _ c a b k=>⟨trivial,k,c,a,b⟩
        intro L v8 W8 hL hI
        replace R_bk:=R_bk.keep1 hI.keep ne_bk_o
        replace R_b:=R_b.keep1 hI.keep ne_b_o
        replace R_r:=R_r.keep1 hI.keep ne_r_o
        replace R_t:=R_t.keep1 hI.keep ne_t_o
        replace R_o:=hI.new 0 rfl (hL 9 (by decide))
        replace lt_r:=ltk lt_r hI.keep.size
        replace lt_t:=ltk lt_t hI.keep.size
        replace lt_o:=ltk lt_o hI.keep.size
        have hk18:=hI.keep
        replace hx:=hx.keep1 hI.keep bs_o
        have hs_59_18 : (v8 5) = .int .u8 (n8 (b8 &&& 15)):=hI.val 5 (hL 5 (by decide))
        clear hI hL hok L
        simp only [putP,Act.put,zA,zB,zC,hs_59_18]
        have hK4:=hK3.same hk18
        clear hK3 hk18
        rw [qpz,← e2.out] at R_o
        go_wp2
        exact ⟨⟨2,by first | rfl | go_num,.inr (.inr ⟨rfl,R_o⟩),⟨hK4.os,hK4.tape,hK4.output,hK4.size,hK4.keep⟩⟩,by simp [intOf]⟩
       ·have hK4:=hK.same hK3
        rw [hN2.out] at R_o
        go_wp2
        exact ⟨⟨m,_,Nat.le_of_lt hm,rfl,hx4,R_o,⟨hK4.os,hK4.tape,hK4.output,hK4.size,hK4.keep⟩⟩,by simp [intOf];try omega⟩
     ·obtain rfl : x = -1:=by omega
      obtain rfl : i = 0:=by omega
      rw [Nat.mul_zero,Nat.pow_zero,Nat.div_one] at R_o
      clear hxi hxi' hK
      go_upto_region 20 with fail
      have hok : TrsOk [r] wr.heap.size ([(tk (none) r 49 (some 2) (sz 64) (fun u=>u = .agg (pc (fb (Pt.mul N P).x) (fb (Pt.mul N P).y))))] : List Trk):=⟨by simp [tk,R_r.lt],by simp [tk],by simp [tk],by simp [tk]⟩
      refine qac (Inv [r] (fun j u=>match j with | 0=>isP u (Pt.mul N P) | 1=>u = .agg (pc (fb (Pt.mul N P).x) (fb (Pt.mul N P).y)) | 3=>u = .nilIface | _=>True) [(tk (none) r 49 (some 2) (sz 64) (fun u=>u = .agg (pc (fb (Pt.mul N P).x) (fb (Pt.mul N P).y))))] wr) qt4 [(64,0),(65,1),(5,3)] 66 rfl (by kernel_rfl) (Inv.start0 hok (by
        simp only [zD,zE,zF,zG,zH]
        exact fun _=>R_r)) ⟨?_,?_,?_,?_,trivial⟩ ?_
      ·exact sV fun L v w D N I=>ld_Pw (R_o.keep1 I.keep (Ne.symm ne_r_o)) _ rfl rfl ldK
      ·exact sV fun L v w D N I=>gcOut _ _ rfl rfl (qaf (qnr (I.val 0 (D 0 rfl)) w))
      ·exact s_put 0 rfl rfl rfl rfl rfl hok fun L v w D I cs hR ho=>st_P hR (qaq ho) _ _ rfl rfl (I.val 1 (D 1 rfl)) fun _ c a b k=>⟨trivial,k,c,a,b⟩
      ·exact sV fun L v w D N I=>⟨rfl,Ext.refl _⟩
      intro L v6 W6 hL hI
      replace R_bk:=R_bk.keep1 hI.keep ne_bk_r
      replace R_b:=R_b.keep1 hI.keep ne_b_r
      replace R_t:=R_t.keep1 hI.keep (Ne.symm ne_r_t)
      replace R_o:=R_o.keep1 hI.keep (Ne.symm ne_r_o)
      replace R_r:=hI.new 0 rfl (hL 2 (by decide))
      replace lt_r:=ltk lt_r hI.keep.size
      replace lt_t:=ltk lt_t hI.keep.size
      replace lt_o:=ltk lt_o hI.keep.size
      replace hx:=hx.keep1 hI.keep bs_r
      have hs_5_20 : (v6 3) = .nilIface:=hI.val 3 (hL 3 (by decide))
      clear hI hL hok L
      simp only [putP,Act.put,zA,zB,zC,hs_5_20]
      go_wp2
      refine bodyPost_ret (qbf rfl _ R_r rfl) rfl ?_
      refine ⟨?_,hx⟩
      rfl
end Go.Proofs.YtgeihelkkhjjaaaGreatDoor
end
