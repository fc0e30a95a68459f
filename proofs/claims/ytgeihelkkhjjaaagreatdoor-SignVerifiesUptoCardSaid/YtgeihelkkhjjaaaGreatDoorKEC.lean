/-
  Texts of the lemmas below the claim, put together: EC ED.
-/
import Derived.Test.YtgeihelkkhjjaaaGreatDoorKElE
import Derived.Test.YtgeihelkkhjjaaaGreatDoorKEB
import Derived.Stop.BytesEq
import Derived.OrdersHeld
set_option linter.unusedSimpArgs false
set_option linter.unusedVariables false
set_option maxRecDepth 10000
set_option maxHeartbeats 4000000
section
section
namespace Go.Proofs.YtgeihelkkhjjaaaGreatDoor
open Go.RowKit Go.Cv

theorem qk8 (w : World) (a b c d : UInt64) (T : TypeId) {n : Nat} (hn : n = w.heap.size) : C4 (w.alloc (.cells (w4 a b c d) T)) n a b c d:=hn ▸ C4.new w a b c d T
theorem inv_any (a b c d : UInt64) (w : World) :
  Calls Tryz.prog 89 #[el a b c d] w fun e w'=>∃ s0 s1 s2 s3,e = .returned (el s0 s1 s2 s3) ∧
   qb7 (val4 s0 s1 s2 s3) (val4 a b c d) (2 ^ 255 - 21)∧Ext w w':=by
 go_enter Tryz.func89,Tryz.ntmps89
 go_upto_region 1 with fail
 go_cut [3,4] from 5 to 9 (fun p q wx=>∃ (nt nl : Nat) (vt0 vt1 vt2 vt3 vl0 vl1 vl2 vl3 : UInt64),p = .pointer (some ⟨nt,0,none⟩)∧q = .pointer (some ⟨nl,0,none⟩)∧C4 wx nt vt0 vt1 vt2 vt3∧C4 wx nl vl0 vl1 vl2 vl3 ∧
  Ext ((w.alloc (.cells (w4 a b c d) 101)).alloc (.cells (w4 0 0 0 0) 101)) wx∧((w.alloc (.cells (w4 a b c d) 101)).alloc (.cells (w4 0 0 0 0) 101)).heap.size ≤ nt∧((w.alloc (.cells (w4 a b c d) 101)).alloc (.cells (w4 0 0 0 0) 101)).heap.size ≤ nl∧qb7 (val4 vt0 vt1 vt2 vt3) (val4 a b c d) (2 ^ 250 - 1)∧qb7 (val4 vl0 vl1 vl2 vl3) (val4 a b c d) 11)
 case first =>
  go_wp2_with (go_at_call 103;with_reducible refine (qm8 _ _ _ _ _).mono ?_;rintro e w' ⟨s0,s1,s2,s3,t0,t1,t2,t3,rfl,hs,ht,hx⟩;obtain ⟨l',rfl⟩:=qah hx;clear hx)
  go_meet
  case rel =>
   refine ⟨_,_,s0,s1,s2,s3,t0,t1,t2,t3,rfl,rfl,(qk8 _ _ _ _ _ _ rfl).ext (qaa _ _),qk8 _ _ _ _ _ _ (by simp),((qad _ _).trans (qaa _ _)).trans (qaa _ _),?_,?_,hs,ht⟩
   ·exact (qad _ _).size_
   ·exact Nat.le_succ_of_le (qad _ _).size_
 case rest =>
 obtain ⟨nt,nl,vt0,vt1,vt2,vt3,vl0,vl1,vl2,vl3,rfl,rfl,⟨ft_0,ft_1,ft_2,ft_3⟩,⟨fl_0,fl_1,fl_2,fl_3⟩,hE,hszt,hszl,ht,hl⟩:=hcut
 replace ht:=Lib.hid ht
 replace hl:=Lib.hid hl
 obtain ⟨x,rfl⟩:=qah hE
 clear hE
 go_upto_region 2 with fail
 have gt_0 : ∀ (c1 : Array Value) (z : Nat) (o : Array Obj),(grw ((w.alloc (.cells (w4 a b c d) 101)).alloc (.cells c1 101)) (z,x.2 ++ o)).cell? ⟨nt,0,none⟩ = some (.int .u64 (n64 vt0)):=fun c1 z o=>qav (w:=((w.alloc (.cells (w4 a b c d) 101)).alloc (.cells (w4 0 0 0 0) 101))) (by simp) hszt ft_0 z o
 have dt_0 : ∀ (c1 : Array Value) (z : Nat),(grw ((w.alloc (.cells (w4 a b c d) 101)).alloc (.cells c1 101)) (z,x.2)).cell? ⟨nt,0,none⟩ = some (.int .u64 (n64 vt0)):=fun c1 z=>by have:=gt_0 c1 z #[];rwa [Array.append_empty] at this
 clear ft_0
 have gt_1 : ∀ (c1 : Array Value) (z : Nat) (o : Array Obj),(grw ((w.alloc (.cells (w4 a b c d) 101)).alloc (.cells c1 101)) (z,x.2 ++ o)).cell? ⟨nt,1,none⟩ = some (.int .u64 (n64 vt1)):=fun c1 z o=>qav (w:=((w.alloc (.cells (w4 a b c d) 101)).alloc (.cells (w4 0 0 0 0) 101))) (by simp) hszt ft_1 z o
 have dt_1 : ∀ (c1 : Array Value) (z : Nat),(grw ((w.alloc (.cells (w4 a b c d) 101)).alloc (.cells c1 101)) (z,x.2)).cell? ⟨nt,1,none⟩ = some (.int .u64 (n64 vt1)):=fun c1 z=>by have:=gt_1 c1 z #[];rwa [Array.append_empty] at this
 clear ft_1
 have gt_2 : ∀ (c1 : Array Value) (z : Nat) (o : Array Obj),(grw ((w.alloc (.cells (w4 a b c d) 101)).alloc (.cells c1 101)) (z,x.2 ++ o)).cell? ⟨nt,2,none⟩ = some (.int .u64 (n64 vt2)):=fun c1 z o=>qav (w:=((w.alloc (.cells (w4 a b c d) 101)).alloc (.cells (w4 0 0 0 0) 101))) (by simp) hszt ft_2 z o
 have dt_2 : ∀ (c1 : Array Value) (z : Nat),(grw ((w.alloc (.cells (w4 a b c d) 101)).alloc (.cells c1 101)) (z,x.2)).cell? ⟨nt,2,none⟩ = some (.int .u64 (n64 vt2)):=fun c1 z=>by have:=gt_2 c1 z #[];rwa [Array.append_empty] at this
 clear ft_2
 have gt_3 : ∀ (c1 : Array Value) (z : Nat) (o : Array Obj),(grw ((w.alloc (.cells (w4 a b c d) 101)).alloc (.cells c1 101)) (z,x.2 ++ o)).cell? ⟨nt,3,none⟩ = some (.int .u64 (n64 vt3)):=fun c1 z o=>qav (w:=((w.alloc (.cells (w4 a b c d) 101)).alloc (.cells (w4 0 0 0 0) 101))) (by simp) hszt ft_3 z o
 have dt_3 : ∀ (c1 : Array Value) (z : Nat),(grw ((w.alloc (.cells (w4 a b c d) 101)).alloc (.cells c1 101)) (z,x.2)).cell? ⟨nt,3,none⟩ = some (.int .u64 (n64 vt3)):=fun c1 z=>by have:=gt_3 c1 z #[];rwa [Array.append_empty] at this
 clear ft_3
 clear hszt
 have gl_0 : ∀ (c1 : Array Value) (z : Nat) (o : Array Obj),(grw ((w.alloc (.cells (w4 a b c d) 101)).alloc (.cells c1 101)) (z,x.2 ++ o)).cell? ⟨nl,0,none⟩ = some (.int .u64 (n64 vl0)):=fun c1 z o=>qav (w:=((w.alloc (.cells (w4 a b c d) 101)).alloc (.cells (w4 0 0 0 0) 101))) (by simp) hszl fl_0 z o
 have dl_0 : ∀ (c1 : Array Value) (z : Nat),(grw ((w.alloc (.cells (w4 a b c d) 101)).alloc (.cells c1 101)) (z,x.2)).cell? ⟨nl,0,none⟩ = some (.int .u64 (n64 vl0)):=fun c1 z=>by have:=gl_0 c1 z #[];rwa [Array.append_empty] at this
 clear fl_0
 have gl_1 : ∀ (c1 : Array Value) (z : Nat) (o : Array Obj),(grw ((w.alloc (.cells (w4 a b c d) 101)).alloc (.cells c1 101)) (z,x.2 ++ o)).cell? ⟨nl,1,none⟩ = some (.int .u64 (n64 vl1)):=fun c1 z o=>qav (w:=((w.alloc (.cells (w4 a b c d) 101)).alloc (.cells (w4 0 0 0 0) 101))) (by simp) hszl fl_1 z o
 have dl_1 : ∀ (c1 : Array Value) (z : Nat),(grw ((w.alloc (.cells (w4 a b c d) 101)).alloc (.cells c1 101)) (z,x.2)).cell? ⟨nl,1,none⟩ = some (.int .u64 (n64 vl1)):=fun c1 z=>by have:=gl_1 c1 z #[];rwa [Array.append_empty] at this
 clear fl_1
 have gl_2 : ∀ (c1 : Array Value) (z : Nat) (o : Array Obj),(grw ((w.alloc (.cells (w4 a b c d) 101)).alloc (.cells c1 101)) (z,x.2 ++ o)).cell? ⟨nl,2,none⟩ = some (.int .u64 (n64 vl2)):=fun c1 z o=>qav (w:=((w.alloc (.cells (w4 a b c d) 101)).alloc (.cells (w4 0 0 0 0) 101))) (by simp) hszl fl_2 z o
 have dl_2 : ∀ (c1 : Array Value) (z : Nat),(grw ((w.alloc (.cells (w4 a b c d) 101)).alloc (.cells c1 101)) (z,x.2)).cell? ⟨nl,2,none⟩ = some (.int .u64 (n64 vl2)):=fun c1 z=>by have:=gl_2 c1 z #[];rwa [Array.append_empty] at this
 clear fl_2
 have gl_3 : ∀ (c1 : Array Value) (z : Nat) (o : Array Obj),(grw ((w.alloc (.cells (w4 a b c d) 101)).alloc (.cells c1 101)) (z,x.2 ++ o)).cell? ⟨nl,3,none⟩ = some (.int .u64 (n64 vl3)):=fun c1 z o=>qav (w:=((w.alloc (.cells (w4 a b c d) 101)).alloc (.cells (w4 0 0 0 0) 101))) (by simp) hszl fl_3 z o
 have dl_3 : ∀ (c1 : Array Value) (z : Nat),(grw ((w.alloc (.cells (w4 a b c d) 101)).alloc (.cells c1 101)) (z,x.2)).cell? ⟨nl,3,none⟩ = some (.int .u64 (n64 vl3)):=fun c1 z=>by have:=gl_3 c1 z #[];rwa [Array.append_empty] at this
 clear fl_3
 clear hszl
 go_region_with
  (first
    | (go_at_call 85;with_reducible refine (qb1 _ _ _ _ _ _ _ _ _).mono ?_;rintro e w' ⟨r0,r1,r2,r3,rfl,hr,hx⟩;obtain ⟨l',rfl⟩:=qah hx;clear hx)
    | (go_at_call 104;with_reducible refine (qkb _ _ _ _ _).mono ?_;rintro e w' ⟨q0,q1,q2,q3,rfl,hq,hx⟩;obtain ⟨l',rfl⟩:=qah hx;clear hx))
 all_goals
  go_wp2
  refine bodyPost_ret_by (by simp [results,Tryz.results89,go_sem];rfl) rfl ?_
  exact ⟨r0,r1,r2,r3,rfl,qdp (2 ^ 255 - 21) (qfv 5 _ ht.out hq rfl) hl.out hr (by decide),((qaa _ _).trans (qaa _ _)).trans (qad _ _)⟩
end Go.Proofs.YtgeihelkkhjjaaaGreatDoor
end
section
namespace Go.Cv
open Go.RowKit
@[go_sem] theorem zero_bcells : (#[.int .u8 0,.int .u8 0,.int .u8 0,.int .u8 0,.int .u8 0,.int .u8 0,.int .u8 0,.int .u8 0,.int .u8 0,.int .u8 0,.int .u8 0,.int .u8 0,.int .u8 0,.int .u8 0,.int .u8 0,.int .u8 0,.int .u8 0,.int .u8 0,.int .u8 0,.int .u8 0,.int .u8 0,.int .u8 0,.int .u8 0,.int .u8 0,.int .u8 0,.int .u8 0,.int .u8 0,.int .u8 0,.int .u8 0,.int .u8 0,.int .u8 0,.int .u8 0] : Array Value) = qab (fun _=>0):=qga.symm
def rowOf (W : World) (n : Nat) : Array Value:=match W.heap[n]? with | some (.cells c _ _)=>c | _=>#[]
def isB (W : World) (n : Nat) : Prop:=∃ c t,W.heap[n]? = some (.cells c t (0,0))∧c.size = 32
theorem qc0 {w w' : World} (h : Ext w w') {n : Nat} (hn : n < w.heap.size) : w'.heap[n]? = w.heap[n]?:=h.block n hn
@[go_sem] theorem rowOf_at {w : World} (c : Array Value) (t : TypeId) (n : Nat) (hn : n = w.heap.size) : rowOf (w.alloc (.cells c t)) n = c:=by
 subst hn
 unfold rowOf
 rw [heap_alloc_last]
@[go_sem] theorem rowOf_past {w : World} (o : Obj) (n : Nat) (hn : n < w.heap.size) : rowOf (w.alloc o) n = rowOf w n:=by
 unfold rowOf
 rw [qc0 (qaa w o) hn]
@[go_sem] theorem rowOf_grw {w : World} (x : Nat × Array Obj) (n : Nat) (hn : n < w.heap.size) : rowOf (grw w x) n = rowOf w n:=by
 unfold rowOf
 rw [qc0 (qad w x) hn]
@[go_sem] theorem isB_at {w : World} (c : Array Value) (t : TypeId) (n : Nat) (hn : n = w.heap.size) (hc : c.size = 32) : isB (w.alloc (.cells c t)) n = True:=by
 subst hn
 exact eq_true ⟨c,t,heap_alloc_last _ _,hc⟩
@[go_sem] theorem isB_past {w : World} (o : Obj) (n : Nat) (hn : n < w.heap.size) : isB (w.alloc o) n = isB w n:=by
 unfold isB
 rw [qc0 (qaa w o) hn]
@[go_sem] theorem isB_grw {w : World} (x : Nat × Array Obj) (n : Nat) (hn : n < w.heap.size) : isB (grw w x) n = isB w n:=by
 unfold isB
 rw [qc0 (qad w x) hn]
@[go_sem] theorem setRow_at_ {w : World} (c c' : Array Value) (t : TypeId) (n : Nat) (hn : n = w.heap.size) : (w.alloc (.cells c t)).setRow n c' = w.alloc (.cells c' t):=by
 subst hn
 exact World.setRow_alloc_new w c c' t
attribute [go_sem] qcg qfb
def qao (f : Nat→UInt8) : List UInt8:=(List.range 32).map f
theorem qau (f : Nat→UInt8) : (qao f).length = 32:=by simp [qao]
theorem qbl (f : Nat→UInt8) : qab f = ((qao f).map Extern.Stop.cell).toArray:=by
 apply Array.ext_getElem?
 intro i
 by_cases hi : i < 32
 ·rw [qbp f hi]
  simp [qao,hi,Extern.Stop.cell]
  rfl
 ·rw [Array.getElem?_eq_none (by rw [qam];omega),Array.getElem?_eq_none (by simp [qao];omega)]
def beqb (f g : Nat→UInt8) : Bool:=qao f == qao g
theorem qdm (f g : Nat→UInt8) : beqb f g = true ↔ ∀ i,i < 32→f i = g i:=by
 unfold beqb qao
 rw [beq_iff_eq,List.map_inj_left]
 simp
theorem nb_inj {n m : Nat} (hn : n < 2 ^ 256) (hm : m < 2 ^ 256) (h : ∀ i,i < 32→nb n i = nb m i) : n = m:=by
 have key : ∀ k,k ≤ 32→n % 2 ^ (8 * k) = m % 2 ^ (8 * k):=by
  intro k
  induction k with
  | zero=>intro _;simp [Nat.mod_one]
  | succ k ih =>
   intro hk
   have h1:=ih (by omega)
   have h2:=h k (by omega)
   unfold nb at h2
   have h3:=congrArg UInt8.toNat h2
   rw [UInt8.toNat_ofNat',UInt8.toNat_ofNat'] at h3
   rw [show 8 * (k + 1) = 8 * k + 8 from by omega,Nat.pow_add,Nat.mod_mul,Nat.mod_mul,h1,h3]
 have:=key 32 (Nat.le_refl _)
 rwa [Nat.mod_eq_of_lt hn,Nat.mod_eq_of_lt hm] at this
theorem qmh {n m : Nat} (hn : n < 2 ^ 256) (hm : m < 2 ^ 256) : beqb (nb n) (nb m) = decide (n = m):=by
 rw [Bool.eq_iff_iff,qdm,decide_eq_true_iff]
 exact ⟨nb_inj hn hm,fun h i _=>by rw [h]⟩
theorem qj2 (n m : Nat) : beqb (nb (n % (2 ^ 255 - 19))) (nb (m % (2 ^ 255 - 19))) = decide (Eqp n m) :=
 qmh (Nat.lt_trans (Nat.mod_lt _ (by decide)) (by decide)) (Nat.lt_trans (Nat.mod_lt _ (by decide)) (by decide))
end Go.Cv
namespace Go.Proofs.YtgeihelkkhjjaaaGreatDoor
open Go.RowKit Go.Cv
theorem s5_ : ∀ w,(sizeOf 5).run Tryz.prog w = .ok 1 w:=fun w=>by
 have h : (Tryz.prog.info? 5).map (·.size) = some 1:=by kernel_rfl
 cases hq : Tryz.prog.info? 5 with
 | none=>simp [hq] at h
 | some i=>simp [hq] at h;simp [sizeOf,typeInfo,hq,h]
theorem u5_ : Tryz.prog.underlying 5 = some (.int .u8):=by kernel_rfl
@[go_sem ↓ high] theorem qka (W : World) (n : Nat) (f : Nat→UInt8) (h : isB W n) : (storeCells ⟨n,0,none⟩ (qab f).toList).run Tryz.prog W = .ok () (W.setRow n (qab f)):=by
 obtain ⟨c,t,hc,h32⟩:=h
 have:=run_storeVar_row (P:=Tryz.prog) W n t 22 c (qab f) hc (by rw [qam];exact i22) (by rw [qam];exact h32) (qcu f)
 have hi:=i22
 cases hq : Tryz.prog.info? 22 with
 | none=>simp [hq] at hi
 | some i =>
  have hs : i.size = 32:=by simpa [hq] using hi
  simpa [storeVar,sizeOf,typeInfo,hq,Value.cells,hs] using this
theorem ql8 (W : World) (n : Nat) (h : isB W n) : (loadCellsFrom ⟨n,0,none⟩ 0 32 #[]).run Tryz.prog W = .ok (rowOf W n) W:=by
 obtain ⟨c,t,hc,h32⟩:=h
 have:=run_loadCells_list (P:=Tryz.prog) W ⟨n,0,none⟩ c.toList (fun j v hv=>by
  have hadd : (⟨n,0,none⟩ : Addr).add j = ⟨n,j,none⟩:=by unfold Addr.add;split <;> simp_all
  rw [hadd,cell_of_row _ _ j c t (0,0) hc]
  simpa using hv)
 have hr : rowOf W n = c:=by unfold rowOf;rw [hc]
 rw [hr]
 simpa [loadCells,h32] using this
@[go_sem ↓ high] theorem storeCells_bc (V : World) (c : Array Value) (f : Nat→UInt8) (hc : c.size = 32) : (storeCells ⟨V.heap.size,0,none⟩ (qab f).toList).run Tryz.prog (V.alloc (.cells c 22)) = .ok () (V.alloc (.cells (qab f) 22)) :=
 run_storeCells_new V _ c (qab f) (by rw [qam];exact i22) (by rw [qam];exact hc) (qcu f)
@[go_sem ↓ high] theorem loadCells_bc (V : World) (f : Nat→UInt8) : (loadCellsFrom ⟨V.heap.size,0,none⟩ 0 32 #[]).run Tryz.prog (V.alloc (.cells (qab f) 22)) = .ok (qab f) (V.alloc (.cells (qab f) 22)) :=
 run_loadCellsFrom_new V _ (qab f) 32 (qam f)
@[go_sem ↓ high] theorem eql_bc (f g : Nat→UInt8) (w : World) : (binOp .eql 22 (.agg (qab f)) (.agg (qab g))).run Tryz.prog w = .ok (.bool (beqb f g)) w:=by
 rw [qbl,qbl]
 exact run_eql_bytes w _ _ 32 u22 u5_ s5_ _ _ (qau f) (qau g)
@[go_sem ↓ high] theorem neq_bc (f g : Nat→UInt8) (w : World) : (binOp .neq 22 (.agg (qab f)) (.agg (qab g))).run Tryz.prog w = .ok (.bool (!beqb f g)) w:=by
 rw [run_neq_struct,qbl,qbl,run_equalIn_bytes w 9998 _ _ 32 u22 u5_ s5_ _ _ (qau f) (qau g)]
 rfl
end Go.Proofs.YtgeihelkkhjjaaaGreatDoor
end
section
namespace Go.Cv
open Go.RowKit
section nested
variable (B : World) (x y : Nat × Array Obj) (o : Obj) (c : Array Value) (T : TypeId) (n i : Nat) (v : Value)
theorem qk1 (hn : n < B.heap.size) : n < ((grw B x).alloc o).heap.size:=by
 have:=qfw x hn
 simp
 omega
@[go_sem ↓ high] theorem cell_gag (hn : n < B.heap.size) : (grw ((grw B x).alloc o) y).cell? ⟨n,i,none⟩ = B.cell? ⟨n,i,none⟩:=by
 rw [qhp _ _ _ _ (qk1 B x o n hn),qij _ _ _ _ _ hn]
@[go_sem ↓ high] theorem frozen_gag (hn : n < B.heap.size) : (grw ((grw B x).alloc o) y).frozen? ⟨n,i,none⟩ = B.frozen? ⟨n,i,none⟩:=by
 rw [qg3 _ _ _ _ (qk1 B x o n hn),qgp _ _ _ _ _ hn]
@[go_sem ↓ high] theorem setCell_gag (hn : n < B.heap.size) : (grw ((grw B x).alloc o) y).setCell ⟨n,i,none⟩ v = grw ((grw (B.setCell ⟨n,i,none⟩ v) x).alloc o) y:=by
 rw [qf5 _ _ _ _ _ (qk1 B x o n hn),qfr _ _ _ _ _ _ hn]
theorem qq7 : (grw B x).heap.size < ((grw B x).alloc o).heap.size:=by simp
@[go_sem ↓ high] theorem cell_gat : (grw ((grw B x).alloc (.cells c T)) y).cell? ⟨(grw B x).heap.size,i,none⟩ = c[i]?:=by
 rw [qhp _ _ _ _ (qq7 B x _),World.cell?_alloc_at _ _ _ _ rfl]
@[go_sem ↓ high] theorem frozen_gat : (grw ((grw B x).alloc (.cells c T)) y).frozen? ⟨(grw B x).heap.size,i,none⟩ = false:=by
 rw [qg3 _ _ _ _ (qq7 B x _),World.frozen?_alloc_at _ _ _ _ rfl]
@[go_sem ↓ high] theorem setCell_gat : (grw ((grw B x).alloc (.cells c T)) y).setCell ⟨(grw B x).heap.size,i,none⟩ v = grw ((grw B x).alloc (.cells (c.setIfInBounds i v) T)) y:=by
 rw [qf5 _ _ _ _ _ (qq7 B x _),World.setCell_alloc_at _ _ _ _ _ rfl]
end nested
theorem met_a {B V : World} {T : TypeId} {r0 r1 r2 r3 : UInt64} {Q : Nat→Prop} (hx : Ext B V) (hq : Q (val4 r0 r1 r2 r3)) :
  ∃ (x y : Nat × Array Obj) (s0 s1 s2 s3 : UInt64),Value.pointer (some ⟨V.heap.size,0,none⟩) = .pointer (some ⟨(grw B x).heap.size,0,none⟩)∧V.alloc (.cells (w4 r0 r1 r2 r3) T) = grw ((grw B x).alloc (.cells (w4 s0 s1 s2 s3) T)) y∧Q (val4 s0 s1 s2 s3):=by
 obtain ⟨x,rfl⟩:=qah hx
 exact ⟨x,_,r0,r1,r2,r3,rfl,qd1 _,hq⟩
theorem met_b {B V : World} {T : TypeId} {r0 r1 r2 r3 : UInt64} {l : Nat × Array Obj} {Q : Nat→Prop} (hx : Ext B V) (hq : Q (val4 r0 r1 r2 r3)) :
  ∃ (x y : Nat × Array Obj) (s0 s1 s2 s3 : UInt64),Value.pointer (some ⟨V.heap.size,0,none⟩) = .pointer (some ⟨(grw B x).heap.size,0,none⟩)∧grw (V.alloc (.cells (w4 r0 r1 r2 r3) T)) l = grw ((grw B x).alloc (.cells (w4 s0 s1 s2 s3) T)) y∧Q (val4 s0 s1 s2 s3):=by
 obtain ⟨x,rfl⟩:=qah hx
 exact ⟨x,l,r0,r1,r2,r3,rfl,rfl,hq⟩
def rm1 : Nat:=val4 14190309331451158704 3405592160176694392 3120150775007532967 3135389899092516619
def pE (A : Nat) : Nat:=A ^ (2 ^ 252 - 2)
theorem pE_is {r A : Nat} (h : qb7 r A (2 ^ 252 - 2)) : Eqp r (pE A):=by
 unfold qb7 at h
 unfold pE
 exact h
def rtc (A : Nat) : Nat:=if Eqp (pE A * pE A) A then pE A else pE A * rm1
def rtOk (A : Nat) : Bool:=decide (Eqp (rtc A * rtc A) A)
theorem rtc_yes {s r A : Nat} (hs : Eqp s (r * r)) (hr : qb7 r A (2 ^ 252 - 2)) (h : beqb (nb (s % (2 ^ 255 - 19))) (nb (A % (2 ^ 255 - 19))) = true) : Eqp r (rtc A):=by
 rw [qj2,decide_eq_true_iff] at h
 replace hr:=pE_is hr
 unfold rtc
 rw [if_pos (((hr.mul hr).sy.tr hs.sy).tr h)]
 exact hr
theorem rtc_no {s r t A : Nat} (hs : Eqp s (r * r)) (hr : qb7 r A (2 ^ 252 - 2)) (ht : Eqp t (r * rm1)) (h : beqb (nb (s % (2 ^ 255 - 19))) (nb (A % (2 ^ 255 - 19))) = false) : Eqp t (rtc A):=by
 rw [qj2,decide_eq_false_iff_not] at h
 replace hr:=pE_is hr
 unfold rtc
 rw [if_neg (fun h2=>h ((hs.tr (hr.mul hr)).tr h2))]
 exact ht.tr (hr.mul (Eqp.refl rm1))
theorem rtOk_of {s r A : Nat} (hs : Eqp s (r * r)) (hr : Eqp r (rtc A)) : beqb (nb (s % (2 ^ 255 - 19))) (nb (A % (2 ^ 255 - 19))) = rtOk A:=by
 rw [qj2]
 unfold rtOk
 rw [decide_eq_decide]
 exact ⟨fun h=>((hr.mul hr).sy.tr hs.sy).tr h,fun h=>(hs.tr (hr.mul hr)).tr h⟩
def qhe (A s : Nat) : Prop:=rtOk A = true→if rtc A % (2 ^ 255 - 19) % 2 = 1 then Eqp (s + rtc A) 0 else Eqp s (rtc A)
theorem qhe.no {A s : Nat} (h : false = rtOk A) : qhe A s:=fun h2=>by rw [← h] at h2;exact absurd h2 (by decide)
theorem qhe.odd {A s r : Nat} {v : UInt8} (hr : Eqp r (rtc A)) (hs : Eqp (s + r) 0) (hv : (v &&& 1 == 1) = decide (rtc A % (2 ^ 255 - 19) % 2 = 1)) (h : (v &&& 1 == 1) = true) : qhe A s:=fun _=>by
 rw [h] at hv
 rw [if_pos (of_decide_eq_true hv.symm)]
 exact ((Eqp.refl s).add hr.sy).tr hs
theorem qhe.even {A r : Nat} {v : UInt8} (hr : Eqp r (rtc A)) (hv : (v &&& 1 == 1) = decide (rtc A % (2 ^ 255 - 19) % 2 = 1)) (h : (v &&& 1 == 1) = false) : qhe A r:=fun _=>by
 rw [h] at hv
 rw [if_neg (of_decide_eq_false hv.symm)]
 exact hr
theorem met_c {R : World} {l : Nat × Array Obj} {T : TypeId} {f : Nat→UInt8} {P : UInt8→Prop} (h : P (f 0)) :
  ∃ (n : Nat) (y : Nat × Array Obj) (v : UInt8),Value.pointer (some ⟨(grw R l).heap.size,0,none⟩) = .pointer (some ⟨n,0,none⟩)∧(grw R l).alloc (.cells (qab f) T) = grw R y∧(grw R y).cell? ⟨n,0,none⟩ = some (.int .u8 (n8 v))∧P v:=by
 obtain ⟨z,hz⟩:=qah ((qad R l).trans (qaa _ (.cells (qab f) T)))
 refine ⟨_,z,f 0,rfl,hz,?_,h⟩
 rw [← hz,World.cell?_alloc_at _ _ _ _ rfl,qbp f (by decide)]
theorem nb_odd (n : Nat) : (nb n 0 &&& 1 == 1) = decide (n % 2 = 1):=by
 rw [Bool.eq_iff_iff,beq_iff_eq,decide_eq_true_iff]
 have h : (nb n 0 &&& 1).toNat = n % 2:=by
  rw [UInt8.toNat_and]
  unfold nb
  rw [UInt8.toNat_ofNat',show (1 : UInt8).toNat = 2 ^ 1 - 1 from rfl,Nat.and_two_pow_sub_one_eq_mod]
  simp
 constructor
 ·intro h2
  rw [h2] at h
  exact h.symm
 ·intro h2
  apply UInt8.toNat_inj.1
  rw [h,h2]
  rfl
end Go.Cv
namespace Go.Proofs.YtgeihelkkhjjaaaGreatDoor
open Go.RowKit Go.Cv

theorem mul_rm1 (a b c d : UInt64) (w : World) :
  Calls Tryz.prog 85 #[el a b c d,.agg #[.int .u64 14190309331451158704,.int .u64 3405592160176694392,.int .u64 3120150775007532967,.int .u64 3135389899092516619]] w fun e w'=>∃ s0 s1 s2 s3,e = .returned (el s0 s1 s2 s3) ∧
   Eqp (val4 s0 s1 s2 s3) (val4 a b c d * rm1)∧Ext w w':=qb1 a b c d 14190309331451158704 3405592160176694392 3120150775007532967 3135389899092516619 w
theorem sub_0 (a b c d : UInt64) (w : World) :
  Calls Tryz.prog 86 #[.agg #[.int .u64 0,.int .u64 0,.int .u64 0,.int .u64 0],el a b c d] w fun e w'=>∃ s0 s1 s2 s3,e = .returned (el s0 s1 s2 s3) ∧
   Eqp (val4 s0 s1 s2 s3 + val4 a b c d) 0∧Ext w w':=qlp 0 0 0 0 a b c d w
theorem root_any (a b c d : UInt64) (w : World) :
  Calls Tryz.prog 90 #[el a b c d] w fun e w'=>∃ s0 s1 s2 s3,e = .returned (.tuple #[el s0 s1 s2 s3,.bool (rtOk (val4 a b c d))]) ∧
   qhe (val4 a b c d) (val4 s0 s1 s2 s3)∧Ext w w':=by
 go_enter Tryz.func90,Tryz.ntmps90
 go_upto_region 1 with fail
 go_cut [4] from 5 to 12 (fun p wx=>∃ (x : Nat × Array Obj) (nt : Nat) (t0 t1 t2 t3 : UInt64),p = .pointer (some ⟨nt,0,none⟩)∧wx = grw ((w.alloc (.cells (w4 a b c d) 101)).alloc (.cells (w4 0 0 0 0) 101)) x∧C4 (grw ((w.alloc (.cells (w4 a b c d) 101)).alloc (.cells (w4 0 0 0 0) 101)) x) nt t0 t1 t2 t3∧qb7 (val4 t0 t1 t2 t3) (val4 a b c d) (2 ^ 250 - 1))
 case first =>
  go_wp2_with (go_at_call 103;with_reducible refine (qm8 _ _ _ _ _).mono ?_;rintro e w' ⟨t0,t1,t2,t3,v0,v1,v2,v3,rfl,ht,hv,hx⟩;obtain ⟨l',rfl⟩:=qah hx;clear hx)
  go_meet
  case rel =>
   obtain ⟨x,hx⟩:=qah (((qad ((w.alloc (.cells (w4 a b c d) 101)).alloc (.cells (w4 0 0 0 0) 101)) l').trans (qaa _ (.cells (w4 t0 t1 t2 t3) 101))).trans (qaa _ (.cells (w4 v0 v1 v2 v3) 101)))
   refine ⟨x,_,t0,t1,t2,t3,rfl,hx,?_,ht⟩
   rw [← hx]
   exact (qk8 _ _ _ _ _ _ rfl).ext (qaa _ _)
 case rest =>
 obtain ⟨x,nt,t0,t1,t2,t3,rfl,rfl,⟨ft_0,ft_1,ft_2,ft_3⟩,ht⟩:=hcut
 replace ht:=Lib.hid ht
 have he : C4 (grw ((w.alloc (.cells (w4 a b c d) 101)).alloc (.cells (w4 0 0 0 0) 101)) x) w.heap.size a b c d:=((C4.new w a b c d _).ext (qaa _ _)).ext (qad _ _)
 obtain ⟨fe_0,fe_1,fe_2,fe_3⟩:=he
 obtain ⟨W,hW⟩ : ∃ W,W = grw ((w.alloc (.cells (w4 a b c d) 101)).alloc (.cells (w4 0 0 0 0) 101)) x:=⟨_,rfl⟩
 rw [← hW] at ft_0 ft_1 ft_2 ft_3 fe_0 fe_1 fe_2 fe_3 ⊢
 have HW:=Lib.hid hW
 clear hW
 go_upto_region 2 with fail
 go_cut [6] from 13 to 18 (fun p wx=>∃ (x y : Nat × Array Obj) (r0 r1 r2 r3 : UInt64),p = .pointer (some ⟨(grw ((w.alloc (.cells (w4 a b c d) 101)).alloc (.cells (w4 0 0 0 0) 101)) x).heap.size,0,none⟩)∧wx = grw ((grw ((w.alloc (.cells (w4 a b c d) 101)).alloc (.cells (w4 0 0 0 0) 101)) x).alloc (.cells (w4 r0 r1 r2 r3) 101)) y∧qb7 (val4 r0 r1 r2 r3) (val4 a b c d) (2 ^ 252 - 2))
 case first =>
  go_region_held3 (fun w'=>w'.cell? ⟨w.heap.size,0,none⟩ = some (.int .u64 (n64 a))∧w'.cell? ⟨w.heap.size,1,none⟩ = some (.int .u64 (n64 b))∧w'.cell? ⟨w.heap.size,2,none⟩ = some (.int .u64 (n64 c))∧w'.cell? ⟨w.heap.size,3,none⟩ = some (.int .u64 (n64 d))∧w'.cell? ⟨nt,0,none⟩ = some (.int .u64 (n64 t0))∧w'.cell? ⟨nt,1,none⟩ = some (.int .u64 (n64 t1))∧w'.cell? ⟨nt,2,none⟩ = some (.int .u64 (n64 t2))∧w'.cell? ⟨nt,3,none⟩ = some (.int .u64 (n64 t3)))
   (refine ⟨Ext.cell (w:=W) ?_ fe_0,Ext.cell (w:=W) ?_ fe_1,Ext.cell (w:=W) ?_ fe_2,Ext.cell (w:=W) ?_ fe_3,Ext.cell (w:=W) ?_ ft_0,Ext.cell (w:=W) ?_ ft_1,Ext.cell (w:=W) ?_ ft_2,Ext.cell (w:=W) ?_ ft_3⟩ <;> (repeat (first | exact Ext.refl _ | assumption | exact qad _ _ | exact qae _ | exact qaa _ _ | refine Ext.trans ?_ (qaa _ _) | refine Ext.trans ?_ (qad _ _) | refine Ext.trans ?_ (qae _))))
   (first
    | (go_at_call 104;with_reducible refine (qkc _ _ _ _ _).mono ?_;rintro e w' ⟨q0,q1,q2,q3,rfl,hq,hx⟩;obtain ⟨l',rfl⟩:=qah hx;clear hx)
    | (go_at_call 85;with_reducible refine (qb1 a b c d a b c d _).mono ?_;rintro e w' ⟨m0,m1,m2,m3,rfl,hm,hx⟩;obtain ⟨l',rfl⟩:=qah hx;clear hx)
    | (go_at_call 85;with_reducible refine (qb1 _ _ _ _ _ _ _ _ _).mono ?_;rintro e w' ⟨r0,r1,r2,r3,rfl,hr,hx⟩;obtain ⟨l',rfl⟩:=qah hx;clear hx))
  all_goals
   go_wp2_with fail
   go_meet
   case rel =>
    have hpow:=qdp (2 ^ 252 - 2) (qfv 2 _ ht.out hq rfl) (qdp 2 (qb7.one _) (qb7.one _) hm (by decide)) hr (by decide)
    first
     | exact met_a (Q:=fun v=>qb7 v (val4 a b c d) (2 ^ 252 - 2)) (by rw [HW.out];(repeat (first | exact Ext.refl _ | assumption | exact qad _ _ | exact qae _ | exact qaa _ _ | refine Ext.trans ?_ (qaa _ _) | refine Ext.trans ?_ (qad _ _) | refine Ext.trans ?_ (qae _)))) hpow
     | exact met_b (Q:=fun v=>qb7 v (val4 a b c d) (2 ^ 252 - 2)) (by rw [HW.out];(repeat (first | exact Ext.refl _ | assumption | exact qad _ _ | exact qae _ | exact qaa _ _ | refine Ext.trans ?_ (qaa _ _) | refine Ext.trans ?_ (qad _ _) | refine Ext.trans ?_ (qae _)))) hpow
 case rest =>
 clear ft_0 ft_1 ft_2 ft_3 fe_0 fe_1 fe_2 fe_3 ht HW W
 obtain ⟨x,y,r0,r1,r2,r3,rfl,rfl,hr⟩:=hcut
 replace hr:=Lib.hid hr
 obtain ⟨nr,hnr⟩ : ∃ n,n = (grw ((w.alloc (.cells (w4 a b c d) 101)).alloc (.cells (w4 0 0 0 0) 101)) x).heap.size:=⟨_,rfl⟩
 have HN:=Lib.hid hnr
 rw [← hnr]
 clear hnr
 go_step
 go_step
 go_cut [25] from 19 to 28 (fun p wx=>∃ (y : Nat × Array Obj) (s0 s1 s2 s3 : UInt64),wx = grw ((grw ((w.alloc (.cells (w4 a b c d) 101)).alloc (.cells (w4 0 0 0 0) 101)) x).alloc (.cells (w4 s0 s1 s2 s3) 101)) y∧Eqp (val4 s0 s1 s2 s3) (rtc (val4 a b c d)))
 case first =>
  have hn:=HN.out
  have he : C4 (grw ((grw ((w.alloc (.cells (w4 a b c d) 101)).alloc (.cells (w4 0 0 0 0) 101)) x).alloc (.cells (w4 r0 r1 r2 r3) 101)) y) w.heap.size a b c d:=((((C4.new w a b c d _).ext (qaa _ _)).ext (qad _ _)).ext (qaa _ _)).ext (qad _ _)
  have hf : C4 (grw ((grw ((w.alloc (.cells (w4 a b c d) 101)).alloc (.cells (w4 0 0 0 0) 101)) x).alloc (.cells (w4 r0 r1 r2 r3) 101)) y) nr r0 r1 r2 r3:=(qk8 _ _ _ _ _ _ hn).ext (qad _ _)
  clear hn
  obtain ⟨fe_0,fe_1,fe_2,fe_3⟩:=he
  obtain ⟨fr_0,fr_1,fr_2,fr_3⟩:=hf
  obtain ⟨W,hW⟩ : ∃ W,W = grw ((grw ((w.alloc (.cells (w4 a b c d) 101)).alloc (.cells (w4 0 0 0 0) 101)) x).alloc (.cells (w4 r0 r1 r2 r3) 101)) y:=⟨_,rfl⟩
  rw [← hW] at fr_0 fr_1 fr_2 fr_3 fe_0 fe_1 fe_2 fe_3 ⊢
  have HW:=Lib.hid hW
  clear hW
  go_upto_region 3 with fail
  go_region_held3 (fun w'=>w'.cell? ⟨w.heap.size,0,none⟩ = some (.int .u64 (n64 a))∧w'.cell? ⟨w.heap.size,1,none⟩ = some (.int .u64 (n64 b))∧w'.cell? ⟨w.heap.size,2,none⟩ = some (.int .u64 (n64 c))∧w'.cell? ⟨w.heap.size,3,none⟩ = some (.int .u64 (n64 d))∧w'.cell? ⟨nr,0,none⟩ = some (.int .u64 (n64 r0))∧w'.cell? ⟨nr,1,none⟩ = some (.int .u64 (n64 r1))∧w'.cell? ⟨nr,2,none⟩ = some (.int .u64 (n64 r2))∧w'.cell? ⟨nr,3,none⟩ = some (.int .u64 (n64 r3)))
   (refine ⟨Ext.cell (w:=W) ?_ fe_0,Ext.cell (w:=W) ?_ fe_1,Ext.cell (w:=W) ?_ fe_2,Ext.cell (w:=W) ?_ fe_3,Ext.cell (w:=W) ?_ fr_0,Ext.cell (w:=W) ?_ fr_1,Ext.cell (w:=W) ?_ fr_2,Ext.cell (w:=W) ?_ fr_3⟩ <;> (repeat (first | exact Ext.refl _ | assumption | exact qad _ _ | exact qae _ | exact qaa _ _ | refine Ext.trans ?_ (qaa _ _) | refine Ext.trans ?_ (qad _ _) | refine Ext.trans ?_ (qae _))))
   (first
    | (go_at_call 85;with_reducible refine (qb1 r0 r1 r2 r3 r0 r1 r2 r3 _).mono ?_;rintro e w' ⟨m0,m1,m2,m3,rfl,hm,hx⟩;obtain ⟨l',rfl⟩:=qah hx;clear hx)
    | (go_at_call 91;with_reducible refine (qgx a b c d _).mono ?_;rintro e w' ⟨rfl,hx⟩;obtain ⟨l',rfl⟩:=qah hx;clear hx)
    | (go_at_call 91;with_reducible refine (qgx _ _ _ _ _).mono ?_;rintro e w' ⟨rfl,hx⟩;obtain ⟨l',rfl⟩:=qah hx;clear hx))
  all_goals
   have hW:=HW.out
   clear HW fe_0 fe_1 fe_2 fe_3 fr_0 fr_1 fr_2 fr_3
   subst hW
   have hn:=HN.out
   clear HN
   subst hn
   go_wp2_with (go_at_call 85;with_reducible refine (mul_rm1 _ _ _ _ _).mono ?_;rintro e w' ⟨s0,s1,s2,s3,rfl,hs,hx⟩;obtain ⟨l',rfl⟩:=qah hx;clear hx)
   all_goals go_meet
   case rel =>
    rename_i hc
    exact ⟨_,s0,s1,s2,s3,rfl,rtc_no (Eqp.refl _) hr.out hs (by simpa using hc)⟩
   case rel =>
    rename_i hc
    exact ⟨_,r0,r1,r2,r3,by rw [qnk,qq4],rtc_yes (Eqp.refl _) hr.out (by simpa using hc)⟩
 case rest =>
 clear hr y
 obtain ⟨y,s0,s1,s2,s3,rfl,hs⟩:=hcut
 have HS:=Lib.hid hs
 clear hs
 go_upto_region 5 with fail
 go_cut [35] from 29 to 35 (fun p wx=>p = .bool (!rtOk (val4 a b c d))∧∃ (y : Nat × Array Obj),wx = grw ((grw ((w.alloc (.cells (w4 a b c d) 101)).alloc (.cells (w4 0 0 0 0) 101)) x).alloc (.cells (w4 s0 s1 s2 s3) 101)) y)
 case first =>
  have hn:=HN.out
  have he : C4 (grw ((grw ((w.alloc (.cells (w4 a b c d) 101)).alloc (.cells (w4 0 0 0 0) 101)) x).alloc (.cells (w4 s0 s1 s2 s3) 101)) y) w.heap.size a b c d:=((((C4.new w a b c d _).ext (qaa _ _)).ext (qad _ _)).ext (qaa _ _)).ext (qad _ _)
  have hf : C4 (grw ((grw ((w.alloc (.cells (w4 a b c d) 101)).alloc (.cells (w4 0 0 0 0) 101)) x).alloc (.cells (w4 s0 s1 s2 s3) 101)) y) nr s0 s1 s2 s3:=(qk8 _ _ _ _ _ _ hn).ext (qad _ _)
  clear hn
  obtain ⟨fe_0,fe_1,fe_2,fe_3⟩:=he
  obtain ⟨fr_0,fr_1,fr_2,fr_3⟩:=hf
  obtain ⟨W,hW⟩ : ∃ W,W = grw ((grw ((w.alloc (.cells (w4 a b c d) 101)).alloc (.cells (w4 0 0 0 0) 101)) x).alloc (.cells (w4 s0 s1 s2 s3) 101)) y:=⟨_,rfl⟩
  rw [← hW] at fr_0 fr_1 fr_2 fr_3 fe_0 fe_1 fe_2 fe_3 ⊢
  have HW:=Lib.hid hW
  clear hW
  go_region_held3 (fun w'=>w'.cell? ⟨w.heap.size,0,none⟩ = some (.int .u64 (n64 a))∧w'.cell? ⟨w.heap.size,1,none⟩ = some (.int .u64 (n64 b))∧w'.cell? ⟨w.heap.size,2,none⟩ = some (.int .u64 (n64 c))∧w'.cell? ⟨w.heap.size,3,none⟩ = some (.int .u64 (n64 d))∧w'.cell? ⟨nr,0,none⟩ = some (.int .u64 (n64 s0))∧w'.cell? ⟨nr,1,none⟩ = some (.int .u64 (n64 s1))∧w'.cell? ⟨nr,2,none⟩ = some (.int .u64 (n64 s2))∧w'.cell? ⟨nr,3,none⟩ = some (.int .u64 (n64 s3)))
   (refine ⟨Ext.cell (w:=W) ?_ fe_0,Ext.cell (w:=W) ?_ fe_1,Ext.cell (w:=W) ?_ fe_2,Ext.cell (w:=W) ?_ fe_3,Ext.cell (w:=W) ?_ fr_0,Ext.cell (w:=W) ?_ fr_1,Ext.cell (w:=W) ?_ fr_2,Ext.cell (w:=W) ?_ fr_3⟩ <;> (repeat (first | exact Ext.refl _ | assumption | exact qad _ _ | exact qae _ | exact qaa _ _ | refine Ext.trans ?_ (qaa _ _) | refine Ext.trans ?_ (qad _ _) | refine Ext.trans ?_ (qae _))))
   (first
    | (go_at_call 85;with_reducible refine (qb1 s0 s1 s2 s3 s0 s1 s2 s3 _).mono ?_;rintro e w' ⟨m0,m1,m2,m3,rfl,hm,hx⟩;obtain ⟨l',rfl⟩:=qah hx;clear hx)
    | (go_at_call 91;with_reducible refine (qgx a b c d _).mono ?_;rintro e w' ⟨rfl,hx⟩;obtain ⟨l',rfl⟩:=qah hx;clear hx)
    | (go_at_call 91;with_reducible refine (qgx _ _ _ _ _).mono ?_;rintro e w' ⟨rfl,hx⟩;obtain ⟨l',rfl⟩:=qah hx;clear hx))
  all_goals
   have hW:=HW.out
   clear HW fe_0 fe_1 fe_2 fe_3 fr_0 fr_1 fr_2 fr_3
   subst hW
   go_wp2
   go_meet
   case rel=>exact ⟨congrArg (fun b=>Value.bool (!b)) (rtOk_of (Eqp.refl _) HS.out),_,by rw [qnk,qq4]⟩
 case rest =>
 clear y
 obtain ⟨rfl,y,rfl⟩:=hcut
 obtain ⟨k,hk⟩ : ∃ k,k = rtOk (val4 a b c d):=⟨_,rfl⟩
 rw [← hk]
 replace hk:=Lib.hid hk
 cases k with
 | false =>
  go_wp2
  refine bodyPost_ret_by (by simp [results,Tryz.results90,go_sem];rfl) rfl ?_
  exact ⟨0,0,0,0,by rw [← hk.out];rfl,.no hk.out,(((qaa _ _).trans (qaa _ _)).trans (qad _ _)).trans ((qaa _ _).trans (qad _ _))⟩
 | true =>
  go_upto_region 7 with fail
  go_cut [7] from 36 to 38 (fun p wx=>∃ (n : Nat) (y : Nat × Array Obj) (v : UInt8),p = .pointer (some ⟨n,0,none⟩)∧wx = grw ((grw ((w.alloc (.cells (w4 a b c d) 101)).alloc (.cells (w4 0 0 0 0) 101)) x).alloc (.cells (w4 s0 s1 s2 s3) 101)) y∧(grw ((grw ((w.alloc (.cells (w4 a b c d) 101)).alloc (.cells (w4 0 0 0 0) 101)) x).alloc (.cells (w4 s0 s1 s2 s3) 101)) y).cell? ⟨n,0,none⟩ = some (.int .u8 (n8 v))∧(v &&& 1 == 1) = decide (rtc (val4 a b c d) % (2 ^ 255 - 19) % 2 = 1))
  case first =>
   have hn:=HN.out
   clear HN
   subst hn
   go_wp2_with (go_at_call 91;with_reducible refine (qgx _ _ _ _ _).mono ?_;rintro e w' ⟨rfl,hx⟩;obtain ⟨l',rfl⟩:=qah hx;clear hx)
   go_meet
   case rel =>
    exact met_c (P:=fun v=>(v &&& 1 == 1) = decide (rtc (val4 a b c d) % (2 ^ 255 - 19) % 2 = 1)) (by rw [nb_odd,HS.out])
  case rest =>
  clear y
  obtain ⟨nc,y,v,rfl,rfl,hv,ho⟩:=hcut
  replace ho:=Lib.hid ho
  have hn:=HN.out
  clear HN
  subst hn
  cases hvo : (v &&& 1 == 1) with
  | true =>
   go_wp2_with (go_at_call 86;with_reducible refine (sub_0 _ _ _ _ _).mono ?_;rintro e w' ⟨z0,z1,z2,z3,rfl,hz,hx⟩;obtain ⟨l',rfl⟩:=qah hx;clear hx)
   refine bodyPost_ret_by (by simp [results,Tryz.results90,go_sem];rfl) rfl ?_
   exact ⟨z0,z1,z2,z3,by rw [← hk.out],.odd HS.out hz ho.out hvo,(((qaa _ _).trans (qaa _ _)).trans (qad _ _)).trans ((qaa _ _).trans (qad _ _))⟩
  | false =>
   go_wp2
   refine bodyPost_ret_by (by simp [results,Tryz.results90,go_sem];rfl) rfl ?_
   exact ⟨s0,s1,s2,s3,by rw [← hk.out],.even HS.out ho.out hvo,(((qaa _ _).trans (qaa _ _)).trans (qad _ _)).trans ((qaa _ _).trans (qad _ _))⟩
end Go.Proofs.YtgeihelkkhjjaaaGreatDoor
end
end
section
section
namespace Go.Cv
open Go.RowKit
def negp (n : Nat) : Nat:=2 ^ 255 - 19 - n % (2 ^ 255 - 19)
theorem qlo {s A B : Nat} (h : Eqp (s + B) A) : Eqp s (A + negp B):=by
 have hb:=Nat.mod_lt B (show 2 ^ 255 - 19 > 0 by decide)
 have hd:=Nat.div_add_mod B (2 ^ 255 - 19)
 have e : s + B + negp B = s + (2 ^ 255 - 19) * (B / (2 ^ 255 - 19) + 1):=by
  unfold negp
  rw [Nat.mul_add]
  omega
 have h2:=h.add (Eqp.refl (negp B))
 rw [e] at h2
 refine Eqp.tr ?_ h2
 unfold Eqp
 rw [Nat.add_mul_mod_self_left]
def pI (A : Nat) : Nat:=A ^ (2 ^ 255 - 21)
theorem pI_is {r A : Nat} (h : qb7 r A (2 ^ 255 - 21)) : Eqp r (pI A):=by
 unfold qb7 at h
 unfold pI
 exact h
def rtv (A : Nat) : Nat:=if rtc A % (2 ^ 255 - 19) % 2 = 1 then 0 + negp (rtc A) else rtc A
theorem rtv_is {A s : Nat} (h : rtOk A = true) (hs : qhe A s) : Eqp s (rtv A):=by
 have:=hs h
 unfold rtv
 split
 ·rename_i h1
  rw [if_pos h1] at this
  exact qlo this
 ·rename_i h1
  rw [if_neg h1] at this
  exact this
def V (f : Nat→UInt8) : Nat:=bsum f 32
theorem V_wd (f : Nat→UInt8) : val4 (wd f 0) (wd f 1) (wd f 2) (wd f 3) = V f:=wd_val f
def ob (n : Nat) : Nat→UInt8:=nb (n % (2 ^ 255 - 19))
theorem ob_of {n m : Nat} (h : Eqp n m) : ob n = ob m:=by unfold ob;rw [h]
@[go_sem] theorem rowOf_drew (w : World) (n : Nat) : rowOf w.drew n = rowOf w n:=rfl
@[go_sem] theorem isB_drew (w : World) (n : Nat) : isB w.drew n = isB w n:=rfl
@[go_sem] theorem setRow_drew (w : World) (n : Nat) (c : Array Value) : w.drew.setRow n c = (w.setRow n c).drew:=rfl
def qcr (W : World) (n : Nat) : Option (Array Value):=match W.heap[n]? with | some (.cells c _ (0,0))=>if c.size = 32 then some c else none | _=>none
theorem qh2 {W : World} {n : Nat} {c : Array Value} (h : qcr W n = some c) : isB W n∧rowOf W n = c:=by
 unfold qcr at h
 split at h
 ·rename_i c' t hc
  split at h
  ·rename_i h32
   cases h
   exact ⟨⟨c,t,hc,h32⟩,by unfold rowOf;rw [hc]⟩
  ·cases h
 ·cases h
@[go_sem] theorem rowOpt_at {w : World} (c : Array Value) (t : TypeId) (n : Nat) (hn : n = w.heap.size) (hc : c.size = 32) : qcr (w.alloc (.cells c t)) n = some c:=by
 subst hn
 unfold qcr
 rw [heap_alloc_last]
 simp [hc]
@[go_sem] theorem qlw {w : World} (o : Obj) (n : Nat) (hn : n < w.heap.size) : qcr (w.alloc o) n = qcr w n:=by
 unfold qcr
 rw [qc0 (qaa w o) hn]
@[go_sem] theorem qix {w : World} (x : Nat × Array Obj) (n : Nat) (hn : n < w.heap.size) : qcr (grw w x) n = qcr w n:=by
 unfold qcr
 rw [qc0 (qad w x) hn]
@[go_sem] theorem rowOpt_drew (w : World) (n : Nat) : qcr w.drew n = qcr w n:=rfl
@[go_sem ↓ high] theorem rowOpt_gag (B : World) (x y : Nat × Array Obj) (o : Obj) (n : Nat) (hn : n < B.heap.size) : qcr (grw ((grw B x).alloc o) y) n = qcr B n:=by
 rw [qix _ _ (qk1 B x o n hn),qlw _ _ (qfw x hn),qix _ _ hn]
@[go_sem ↓ high] theorem setRow_gag (B : World) (x y : Nat × Array Obj) (o : Obj) (n : Nat) (c : Array Value) (hn : n < B.heap.size) : (grw ((grw B x).alloc o) y).setRow n c = grw ((grw (B.setRow n c) x).alloc o) y:=by
 rw [qfb _ _ _ _ (qk1 B x o n hn),qcg _ _ _ (qfw x hn),qfb _ _ _ _ hn]
attribute [go_sem] Option.elim_some
def rdB (W : World) (n : Nat) (f : Nat→UInt8) : Prop:=isB W n∧rowOf W n = qab f
theorem rdB.lt {W : World} {n : Nat} {f : Nat→UInt8} (h : rdB W n f) : n < W.heap.size:=by
 obtain ⟨c,t,hc,_⟩:=h.1
 exact (Array.getElem?_eq_some_iff.1 hc).1
theorem rdB.ext {w w' : World} {n : Nat} {f : Nat→UInt8} (hx : Ext w w') (h : rdB w n f) : rdB w' n f:=by
 have hn:=h.lt
 refine ⟨?_,?_⟩
 ·have:=h.1
  unfold isB at *
  rwa [qc0 hx hn]
 ·have:=h.2
  unfold rowOf at *
  rwa [qc0 hx hn]
theorem rdB.new (w : World) (f : Nat→UInt8) (T : TypeId) : rdB (w.alloc (.cells (qab f) T)) w.heap.size f :=
 ⟨of_eq_true (isB_at _ _ _ rfl (qam f)),rowOf_at _ _ _ rfl⟩
theorem rdB.new_ (w : World) (f : Nat→UInt8) (T : TypeId) {n : Nat} (h : n = w.heap.size) : rdB (w.alloc (.cells (qab f) T)) n f:=h ▸ rdB.new w f T
end Go.Cv
namespace Go.Proofs.YtgeihelkkhjjaaaGreatDoor
open Go.RowKit Go.Cv

noncomputable def ld32 (a : Addr) (W : World) : Result (Array Value):=(loadCellsFrom a 0 32 #[]).run Tryz.prog W
@[go_sem ↓ high] theorem run_ld32 (a : Addr) (W : World) : (loadCellsFrom a 0 32 #[]).run Tryz.prog W = ld32 a W:=rfl
noncomputable def ld32y (n : Nat) (W : World) : Result (Array Value):=ld32 ⟨n,0,none⟩ W
noncomputable def st32y (n : Nat) (f : Nat→UInt8) (W : World) : Result Unit:=(storeCells ⟨n,0,none⟩ (qab f).toList).run Tryz.prog W
@[go_sem] theorem ld32_eq (W : World) (n : Nat) : ld32 ⟨n,0,none⟩ W = (qcr W n).elim (ld32y n W) (fun c=>.ok c W):=by
 cases h : qcr W n with
 | none=>rfl
 | some c =>
  obtain ⟨hB,hr⟩:=qh2 h
  rw [← hr]
  exact ql8 W n hB
@[go_sem ↓ high] theorem st32_eq (W : World) (n : Nat) (f : Nat→UInt8) : (storeCells ⟨n,0,none⟩ (qab f).toList).run Tryz.prog W = (qcr W n).elim (st32y n f W) (fun _=>.ok () (W.setRow n (qab f))):=by
 cases h : qcr W n with
 | none=>rfl
 | some c=>exact qka W n f (qh2 h).1
theorem qfn {ops : Array Oper} {rest : List Oper} {o : Oper} {a : Act} {w : World} {Q : Exit→Act→World→Prop} (hgd : o.guard = none) (x : Operand) (ho : o.op = .load 22 x)
  (n : Nat) (hx : a.eval x = .pointer (some ⟨n,0,none⟩)) (hB : isB w n) (f : Nat→UInt8) (hf : rowOf w n = qab f)
  (h : wpList Tryz.prog ops Q rest (a.put o.dst (.agg (qab f))) w) : wpList Tryz.prog ops Q (o :: rest) a w:=by
 obtain ⟨c,t,hc,h32⟩:=hB
 have hr : rowOf w n = c:=by unfold rowOf;rw [hc]
 rw [hr] at hf
 subst hf
 exact wpList_load_row hgd _ x ho n hx t _ (0,0) _ hc u22 rfl (by rw [h32];exact i22) h
theorem qn9 {fn : Func} {p : Tmp} (h : fn.results = #[.cell p 22]) (tmps : Array Value) (W : World) (n : Nat) (f : Nat→UInt8)
  (hp : tmps.getD p undef = .pointer (some ⟨n,0,none⟩)) (hB : isB W n) (hf : rowOf W n = qab f) : (results fn tmps).run Tryz.prog W = .ok (.agg (qab f)) W:=by
 obtain ⟨c,t,hc,h32⟩:=hB
 have hr : rowOf W n = c:=by unfold rowOf;rw [hc]
 rw [hr] at hf
 subst hf
 exact results_cell_row h tmps W n t _ (0,0) _ hp hc u22 rfl (by rw [h32];exact i22)
theorem qp6 (a b c d : UInt64) (w : World) :
  Calls Tryz.prog 91 #[el a b c d] w fun e w'=>e = .returned (.agg (qab (ob (val4 a b c d))))∧Ext w w':=qgx a b c d w

theorem qrb (f : Nat→UInt8) (w : World) :
  Calls Tryz.prog 99 #[.agg (qab f)] w fun e w'=>e = .returned (el (wd f 0) (wd f 1) (wd f 2) (wd f 3))∧Ext w w':=by
 go_enter Tryz.func99,Tryz.ntmps99
 go_wp2_with (first | ((with_reducible refine qfn ?_ (.tmp 1) ?_ w.heap.size ?_ ?_ f ?_ ?_);rfl;rfl;rfl;(simp [go_sem]);(simp [go_sem])) | (go_at_call 84;with_reducible refine (in_any _ _).mono ?_;rintro e w' ⟨rfl,hx⟩;obtain ⟨l',rfl⟩:=qah hx;clear hx))
 refine bodyPost_ret_by (by simp [results,Tryz.results99,go_sem];rfl) rfl ?_
 exact ⟨rfl,((qaa _ _).trans (qaa _ _)).trans (qad _ _)⟩

theorem qob (f : Nat→UInt8) (w : World) :
  Calls Tryz.prog 76 #[.agg (qab f)] w fun e w'=>e = .returned (.agg (qab (ob (V f))))∧Ext w w':=by
 go_enter Tryz.func76,Tryz.ntmps76
 go_wp2_with (first | ((with_reducible refine qfn ?_ (.tmp 1) ?_ w.heap.size ?_ ?_ f ?_ ?_);rfl;rfl;rfl;(simp [go_sem]);(simp [go_sem])) | (go_at_call 99;with_reducible refine (qrb _ _).mono ?_;rintro e w' ⟨rfl,hx⟩;obtain ⟨l',rfl⟩:=qah hx;clear hx) | (go_at_call 91;with_reducible refine (qp6 _ _ _ _ _).mono ?_;rintro e w' ⟨rfl,hx⟩;obtain ⟨l',rfl⟩:=qah hx;clear hx))
 refine bodyPost_ret (qn9 (p:=2) rfl _ _ (w.heap.size + 1) (ob (V f)) ?_ ?_ ?_) rfl ⟨rfl,((qaa _ _).trans (qaa _ _)).trans (qad _ _)⟩
 ·rfl
 ·simp [go_sem]
 ·simp [go_sem,V_wd]

theorem fsub_any (f g : Nat→UInt8) (w : World) :
  Calls Tryz.prog 92 #[.agg (qab f),.agg (qab g)] w fun e w'=>e = .returned (.agg (qab (ob (V f + negp (V g)))))∧Ext w w':=by
 go_enter Tryz.func92,Tryz.ntmps92
 go_upto_region 1 with fail
 obtain ⟨W,hW⟩ : ∃ W,W = ((w.alloc (.cells (qab f) 22)).alloc (.cells (qab g) 22)).alloc (.cells (qab fun _=>0) 22):=⟨_,rfl⟩
 rw [← hW]
 have h1 : rdB W w.heap.size f:=by rw [hW];exact ((rdB.new _ _ _).ext (qaa _ _)).ext (qaa _ _)
 have h2 : rdB W (w.heap.size + 1) g:=by rw [hW];exact (rdB.new_ _ _ _ (by simp)).ext (qaa _ _)
 have HW:=Lib.hid hW
 clear hW
 have hW:=HW.out
 clear HW h1 h2
 subst hW
 go_region_with
  (first
   | (go_at_call 99;with_reducible refine (qrb _ _).mono ?_;rintro e w' ⟨rfl,hx⟩;obtain ⟨l',rfl⟩:=qah hx;clear hx)
   | (go_at_call 86;with_reducible refine (qlp _ _ _ _ _ _ _ _ _).mono ?_;rintro e w' ⟨s0,s1,s2,s3,rfl,hs,hx⟩;obtain ⟨l',rfl⟩:=qah hx;clear hx)
   | (go_at_call 91;with_reducible refine (qp6 _ _ _ _ _).mono ?_;rintro e w' ⟨rfl,hx⟩;obtain ⟨l',rfl⟩:=qah hx;clear hx))
 all_goals
  go_wp2
  refine bodyPost_ret_by (by simp [results,Tryz.results92,go_sem];rfl) rfl ?_
  rw [V_wd,V_wd] at hs
  exact ⟨by rw [ob_of (qlo hs)],((((qaa _ _).trans (qaa _ _)).trans (qaa _ _)).trans (qae _)).trans (qad _ _)⟩

end Go.Proofs.YtgeihelkkhjjaaaGreatDoor
end
section
namespace Go.Cv
open Go Go.RowKit
section
variable {P : Program} {ops : Array Oper} {Q : Exit→Act→World→Prop} {md : Region.Mode} {S : World→Prop}
def Res (P : Program) (S : World→Prop) (v : Value) : Result Next→Prop
 | .ok (.value u) w'=>u = v∧S w'
 | .ok .skip w'=>v = undef∧S w'
 | .ok (.enter f args) w'=>Calls P f args w' (fun e w''=>e = .returned v∧S w'')
 | _=>False
theorem Res.upon {v : Value} {o : Oper} {a : Act} {next : Act→World→Prop} {r : Result Next} (h : Res P S v r) (hn : ∀ w',S w'→next (a.put o.dst v) w') : o.upon P a next Q r:=by
 unfold Res at h
 split at h
 ·obtain ⟨rfl,hS⟩:=h
  exact hn _ hS
 ·obtain ⟨rfl,hS⟩:=h
  exact hn _ hS
 ·refine Calls.mono h fun e w'' he=>?_
  obtain ⟨rfl,hS⟩:=he
  exact hn _ hS
 ·exact h.elim
def qcb (P : Program) (ops : Array Oper) (S : World→Prop) (o : Oper) (v : Value) (a : Act) : Prop :=
 (Region.wanted o (yielded ops a.tmps) = true∧∀ w,S w→Res P S v ((execOp a.eval o).run P w)) ∨
 (Region.wanted o (yielded ops a.tmps) = false∧v = undef)
theorem qcb.wpOp {i : Nat} {o : Oper} {v : Value} {a : Act} (hi : ops[i]? = some o) (hy : qcb P ops S o v a)
  {K : Act→World→Prop} {w : World} (hS : S w) (h : ∀ w',S w'→K (a.put o.dst v) w') : wpOp P ops Q i K a w:=by
 unfold Go.wpOp
 simp only [hi]
 rcases hy with ⟨hw,hv⟩ | ⟨hw,rfl⟩
 ·simp only [hw,if_true,Oper.wp]
  exact .inl ((hv w hS).upon h)
 ·simp only [hw,Bool.false_eq_true,if_false]
  exact h w hS
theorem qcb.of_same {o : Oper} {v : Value} {a a' : Act} (hy : qcb P ops S o v a) (he : execOp a'.eval o = execOp a.eval o)
  (hw : Region.wanted o (yielded ops a'.tmps) = Region.wanted o (yielded ops a.tmps)) : qcb P ops S o v a':=by
 unfold qcb at *
 rw [he,hw]
 exact hy
theorem qhu {j : Nat} {oi oj : Oper} {v : Value} (hj : ops[j]? = some oj) (hap : oi.apart ops oj = true)
  (hsi : ∀ cs b,oi.op ≠ .select cs b) (hsj : ∀ cs b,oj.op ≠ .select cs b)
  (hQ : ∀ c a w,Q (.panic c) (a.put oi.dst v) w→Q (.panic c) a w) {K : Act→World→Prop} {a : Act} {w : World}
  (hy : qcb P ops S oi v a) (h : wpOp P ops Q j K (a.put oi.dst v) w) :
  wpOp P ops Q j (fun a' w'=>qcb P ops S oi v a'∧K (a'.put oi.dst v) w') a w:=by
 obtain ⟨h1,h2,h3⟩:=Oper.apart_spec hap
 have keep : ∀ (a : Act),qcb P ops S oi v a→∀ u,qcb P ops S oi v (a.put oj.dst u):=fun a hy u =>
  hy.of_same (execOp_put oi hsi a oj.dst u h3) (wanted_put oi a oj.dst u h3)
 have keepD : ∀ d,qcb P ops S oi v { a with defers:=d :: a.defers } := fun d=>hy.of_same rfl rfl
 unfold wpOp at *
 simp only [hj] at *
 rw [wanted_put oj a oi.dst v h1] at h
 split
 ·rename_i hw
  simp only [hw,if_true] at h
  rcases h with h | ⟨hasks,hlets⟩
  case inr=>exact .inr ⟨by unfold Oper.asks at *;rw [execOp_put oj hsj a oi.dst v h1] at hasks;exact hasks,hlets⟩
  refine .inl ?_
  unfold Oper.wp at *
  rw [execOp_put oj hsj a oi.dst v h1] at h
  generalize (execOp a.eval oj).run P w = r at *
  cases r with
  | ok n w' =>
   cases n <;> simp only [Oper.upon] at h ⊢
   case value u=>exact ⟨keep a hy u,by rw [← Act.put_comm a v u h2];exact h⟩
   case skip=>exact ⟨keep a hy _,by rw [← Act.put_comm a v undef h2];exact h⟩
   case defer d =>
    refine ⟨keep _ (keepD d) _,?_⟩
    rw [← Act.put_comm _ v undef h2,← Act.put_defers]
    exact h
   case enter f args =>
    refine Calls.mono h fun e w'' he=>?_
    cases e with
    | returned u=>exact ⟨keep a hy u,by rw [← Act.put_comm a v u h2];exact he⟩
    | panicked c=>exact hQ _ _ _ he
    | outgrown=>exact he
   case row row args=>exact Rows.mono h fun u w'' he=>⟨keep a hy u,by rw [← Act.put_comm a v u h2];exact he⟩
  | halt x w' =>
   cases x <;> simp only [Oper.upon] at h ⊢
   case panic u=>exact hQ _ _ _ h
 ·rename_i hw
  simp only [hw] at h
  exact ⟨keep a hy _,by rw [← Act.put_comm a v undef h2];exact h⟩
def wpAnyS (P : Program) (md : Region.Mode) (ops : Array Oper) (Q : Exit→Act→World→Prop) (S : World→Prop) : Nat→Array Bool→Act→Prop
 | 0,listed,a=>Region.ready md ops listed = []∧∀ w,S w→Q .normal a w
 | fuel + 1,listed,a =>
  (Region.ready md ops listed = []→∀ w,S w→Q .normal a w) ∧
  ∀ i ∈ Region.ready md ops listed,∀ w,S w→wpOp P ops Q i (fun a' w'=>S w'∧wpAnyS P md ops Q S fuel (listed.setIfInBounds i true) a') a w
theorem qgf : ∀ (fuel : Nat) (listed : Array Bool) (a : Act) (w : World),S w→wpAnyS P md ops Q S fuel listed a→wpAny P md ops Q fuel listed a w
 | 0,_,_,w,hS,h=>⟨h.1,h.2 w hS⟩
 | fuel + 1,_,_,w,hS,h=>⟨fun h0=>h.1 h0 w hS,fun i hi=>wpOp_mono (fun a' w' h'=>qgf fuel _ a' w' h'.1 h'.2) (h.2 i hi w hS)⟩
theorem wpAnyS_first {i : Nat} {oi : Oper} {v : Value} (hi : ops[i]? = some oi) (hsel : ∀ (j : Nat) (o : Oper) cs b,ops[j]? = some o→o.op ≠ .select cs b)
  (hQ : ∀ c a w,Q (.panic c) (a.put oi.dst v) w→Q (.panic c) a w) :
  ∀ (fuel : Nat) (listed : Array Bool) (a : Act),
   (∀ j oj,ops[j]? = some oj→j ≠ i→listed.getD j true = false→(∀ e ∈ oj.after,Region.binds md e = true→e.on ≠ i)→oi.apart ops oj = true) →
   i ∈ Region.ready md ops listed→qcb P ops S oi v a →
   wpAnyS P md ops Q S fuel (listed.setIfInBounds i true) (a.put oi.dst v)→wpAnyS P md ops Q S (fuel + 1) listed a:=by
 intro fuel
 induction fuel with
 | zero =>
  intro listed a _ hr hy H
  refine ⟨fun h=>(by rw [h] at hr;cases hr),fun j hj w hS=>?_⟩
  by_cases hji : j = i
  ·subst hji;exact hy.wpOp hi hS fun w' hS'=>⟨hS',H⟩
  ·have:=ready_mono hj hji
   rw [H.1] at this
   cases this
 | succ fuel ih =>
  intro listed a hfree hr hy H
  refine ⟨fun h=>(by rw [h] at hr;cases hr),fun j hj w hS=>?_⟩
  by_cases hji : j = i
  ·subst hji;exact hy.wpOp hi hS fun w' hS'=>⟨hS',H⟩
  ·have h1:=H.2 j (ready_mono hj hji) w hS
   obtain ⟨hjun,oj,hoj,hall⟩:=mem_ready.1 hj
   have hnot : ∀ e ∈ oj.after,Region.binds md e = true→e.on ≠ i:=fun e he hb heq=>by
    have h1:=hall e he hb
    have h0:=(mem_ready.1 hr).1
    rw [heq] at h1
    rcases Nat.lt_or_ge i listed.size with h' | h'
    ·simp [h'] at h0 h1;rw [h0] at h1;cases h1
    ·simp [Array.getElem?_eq_none h'] at h1
   have h2:=qhu hoj (hfree j oj hoj hji hjun hnot) (fun cs b=>hsel i oi cs b hi) (fun cs b=>hsel j oj cs b hoj) hQ hy h1
   have hfree' : ∀ k ok,ops[k]? = some ok→k ≠ i→(listed.setIfInBounds j true).getD k true = false →
     (∀ e ∈ ok.after,Region.binds md e = true→e.on ≠ i)→oi.apart ops ok = true:=fun k ok hk hki hun hno=>by
    refine hfree k ok hk hki ?_ hno
    by_cases hjk : j = k
    ·subst hjk;exact hjun
    ·rw [getD_set_ne true hjk] at hun;exact hun
   refine wpOp_mono (fun a' w' h3=>⟨h3.2.1,ih (listed.setIfInBounds j true) a' hfree' (ready_mono hr (Ne.symm hji)) h3.1 ?_⟩) h2
   rw [Array.setIfInBounds_comm _ _ hji]
   exact h3.2.2
theorem qlj {i : Nat} {oi : Oper} {v : Value} {fuel : Nat} {listed : Array Bool} {a : Act} (hi : ops[i]? = some oi)
  (hs : Region.noSelect ops = true) (hf : Region.free md ops listed i = true) (hr : (Region.ready md ops listed).contains i = true)
  (hQ : ∀ c a w,Q (.panic c) (a.put oi.dst v) w→Q (.panic c) a w) (hy : qcb P ops S oi v a)
  (h : wpAnyS P md ops Q S fuel (listed.setIfInBounds i true) (a.put oi.dst v)) : wpAnyS P md ops Q S (fuel + 1) listed a :=
 wpAnyS_first hi (Region.noSelect_spec hs) hQ fuel listed a (Region.free_spec hi hf) (by simpa using hr) hy h
theorem qo4 {i : Nat} {oi : Oper} (dst : Option Tmp) {v : Value} {fuel : Nat} {listed : Array Bool} {a : Act} (hi : ops[i]? = some oi) (hd : oi.dst = dst)
  (hs : Region.noSelect ops = true) (hf : Region.free md ops listed i = true) (hr : (Region.ready md ops listed).contains i = true)
  (hQ : ∀ c a w,Q (.panic c) (a.put dst v) w→Q (.panic c) a w) (hy : qcb P ops S oi v a)
  (h : wpAnyS P md ops Q S fuel (listed.setIfInBounds i true) (a.put dst v)) : wpAnyS P md ops Q S (fuel + 1) listed a:=by
 subst hd
 exact qlj hi hs hf hr hQ hy h
theorem gS {i : Nat} {oi : Oper} (dst : Option Tmp) {v : Value} {fuel : Nat} {listed : Array Bool} {a : Act} (hi : ops[i]? = some oi) (hd : oi.dst = dst) (hk : (Region.noSelect ops && Region.free md ops listed i && (Region.ready md ops listed).contains i) = true) (hQ : ∀ c a w,Q (.panic c) (a.put dst v) w→Q (.panic c) a w) (hw : Region.wanted oi (yielded ops a.tmps) = true) (hy : ∀ w,S w→Res P S v ((execOp a.eval oi).run P w)) (h : wpAnyS P md ops Q S fuel (listed.setIfInBounds i true) (a.put dst v)) : wpAnyS P md ops Q S (fuel + 1) listed a:=by
 simp only [Bool.and_eq_true] at hk
 exact qo4 dst hi hd hk.1.1 hk.1.2 hk.2 hQ (.inl ⟨hw,hy⟩) h
theorem qbv {listed : Array Bool} {a : Act} (hr : Region.ready md ops listed = []) (h : ∀ w,S w→Q .normal a w) : wpAnyS P md ops Q S 0 listed a:=⟨hr,h⟩
theorem qbd {id : Nat} {a : Act} {w : World} (S : World→Prop) (hm : P.follows .mixedOrders = true) (hS : S w.drew)
  (h : wpAnyS P .any ops Q S ops.size (Array.replicate ops.size false) a) : (Code.region id ops true).wp P Q a w :=
 wp_region_any hm (qgf _ _ _ _ hS h)
end
section
open Go.RowKit
end
end Go.Cv
end
end
