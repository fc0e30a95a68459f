/-
  Walks of the element's functions: the great powers.
-/
import Derived.Test.YtgeihelkkhjjaaaGreatDoorKEA
import Derived.Deep.RegionHeld3
import Derived.Deep.CutRange
set_option linter.unusedSimpArgs false
set_option linter.unusedVariables false
set_option maxHeartbeats 4000000
namespace Go.Cv
open Go.RowKit
def C4 (w : World) (n : Nat) (a b c d : UInt64) : Prop :=
 w.cell? ⟨n,0,none⟩ = some (.int .u64 (n64 a))∧w.cell? ⟨n,1,none⟩ = some (.int .u64 (n64 b))∧w.cell? ⟨n,2,none⟩ = some (.int .u64 (n64 c))∧w.cell? ⟨n,3,none⟩ = some (.int .u64 (n64 d))
theorem C4.ext {w w' : World} {n : Nat} {a b c d : UInt64} (h : C4 w n a b c d) (hx : Ext w w') : C4 w' n a b c d :=
 ⟨hx.cell h.1,hx.cell h.2.1,hx.cell h.2.2.1,hx.cell h.2.2.2⟩
theorem C4.new (w : World) (a b c d : UInt64) (T : TypeId) : C4 (w.alloc (.cells (w4 a b c d) T)) w.heap.size a b c d:=by
 refine ⟨?_,?_,?_,?_⟩ <;> rw [World.cell?_alloc_at _ _ _ _ rfl] <;> rfl
theorem Eqp.pow {s t : Nat} (h : Eqp s t) : ∀ n,Eqp (s ^ n) (t ^ n)
 | 0=>rfl
 | n + 1=>by rw [Nat.pow_succ,Nat.pow_succ];exact (h.pow n).mul h
def qb7 (s A k : Nat) : Prop:=Eqp s (A ^ k)
theorem qb7.one (A : Nat) : qb7 A A 1:=by unfold qb7;rw [Nat.pow_one]
theorem qdp {A s t r m k : Nat} (K : Nat) (hs : qb7 s A m) (ht : qb7 t A k) (hr : Eqp r (s * t)) (e : m + k = K) : qb7 r A K:=by
 subst e
 unfold qb7 at *
 rw [Nat.pow_add]
 exact hr.tr (hs.mul ht)
theorem qfv {A s q m : Nat} (n K : Nat) (hs : qb7 s A m) (hq : Eqp q (s ^ 2 ^ n)) (e : m * 2 ^ n = K) : qb7 q A K:=by
 subst e
 unfold qb7 at *
 rw [Nat.pow_mul]
 exact hq.tr (hs.pow _)
end Go.Cv
namespace Go.Proofs.YtgeihelkkhjjaaaGreatDoor
open Go.RowKit Go.Cv

theorem qm8 (a b c d : UInt64) (w : World) :
  Calls Tryz.prog 103 #[el a b c d] w fun e w'=>∃ s0 s1 s2 s3 t0 t1 t2 t3,e = .returned (.tuple #[el s0 s1 s2 s3,el t0 t1 t2 t3]) ∧
   qb7 (val4 s0 s1 s2 s3) (val4 a b c d) (2 ^ 250 - 1)∧qb7 (val4 t0 t1 t2 t3) (val4 a b c d) 11∧Ext w w':=by
 go_enter Tryz.func103,Tryz.ntmps103
 go_upto_region 1 with fail
 obtain ⟨W,hW⟩ : ∃ W,W = ((w.alloc (Obj.cells (w4 a b c d) 101)).alloc (Obj.cells #[Value.int IntKind.u64 0,Value.int IntKind.u64 0,Value.int IntKind.u64 0,Value.int IntKind.u64 0] 101)).alloc (Obj.cells #[Value.int IntKind.u64 0,Value.int IntKind.u64 0,Value.int IntKind.u64 0,Value.int IntKind.u64 0] 101):=⟨_,rfl⟩
 rw [← hW]
 have fe : C4 W w.heap.size a b c d:=by
  rw [hW]
  exact ((C4.new w a b c d _).ext (qaa _ _)).ext (qaa _ _)
 obtain ⟨fe_0,fe_1,fe_2,fe_3⟩:=fe
 have HW:=Lib.hid hW
 clear hW
 have he : Hid (qb7 (val4 a b c d) (val4 a b c d) 1):=Lib.hid (qb7.one _)
 obtain ⟨ne,hne⟩ : ∃ n,n = w.heap.size:=⟨_,rfl⟩
 have HN:=Lib.hid hne
 have HE : Hid (Ext W W):=Lib.hid (Ext.refl W)
 go_cut [4] from 14 to 16 (fun p wx=>∃ (n : Nat) (s0 s1 s2 s3 : UInt64),p = .pointer (some ⟨n,0,none⟩)∧C4 wx n s0 s1 s2 s3∧Ext W wx∧W.heap.size ≤ n∧qb7 (val4 s0 s1 s2 s3) (val4 a b c d) 2)
 case first =>
  go_wp2_with (go_at_call 85;with_reducible refine (qb1 _ _ _ _ _ _ _ _ _).mono ?_;rintro e w' ⟨r0,r1,r2,r3,rfl,hr,hx⟩;obtain ⟨l',rfl⟩:=qah hx;clear hx)
  go_meet
  case rel=>exact ⟨_,r0,r1,r2,r3,rfl,by (first | exact C4.new _ _ _ _ _ _ | exact (C4.new _ _ _ _ _ _).ext (qad _ _) | exact (C4.new _ _ _ _ _ _).ext (qae _) | exact ((C4.new _ _ _ _ _ _).ext (qae _)).ext (qad _ _)),by (repeat (first | exact Ext.refl _ | assumption | exact qad _ _ | exact qae _ | exact qaa _ _ | refine Ext.trans ?_ (qaa _ _) | refine Ext.trans ?_ (qad _ _) | refine Ext.trans ?_ (qae _))),by (first | exact HE.out.size_ | (refine Nat.le_trans HE.out.size_ (Ext.size_ ?_);(repeat (first | exact Ext.refl _ | assumption | exact qad _ _ | exact qae _ | exact qaa _ _ | refine Ext.trans ?_ (qaa _ _) | refine Ext.trans ?_ (qad _ _) | refine Ext.trans ?_ (qae _))))),qdp 2 he.out he.out hr (by decide)⟩
 case rest =>
 obtain ⟨ntwo,vtwo0,vtwo1,vtwo2,vtwo3,rfl,hc,hE,hsztwo,hv⟩:=hcut
 have htwo:=Lib.hid hv
 clear hv
 replace fe_0:=hE.cell fe_0
 replace fe_1:=hE.cell fe_1
 replace fe_2:=hE.cell fe_2
 replace fe_3:=hE.cell fe_3
 obtain ⟨ftwo_0,ftwo_1,ftwo_2,ftwo_3⟩:=hc
 replace HE:=Lib.hid (HE.out.trans hE)
 clear hE
 go_upto_region 2 with fail
 go_cut [5] from 17 to 20 (fun p wx=>∃ (n : Nat) (s0 s1 s2 s3 : UInt64),p = .pointer (some ⟨n,0,none⟩)∧C4 wx n s0 s1 s2 s3∧Ext wc wx∧W.heap.size ≤ n∧qb7 (val4 s0 s1 s2 s3) (val4 a b c d) 9)
 case first =>
  go_region_held3 (fun w'=>w'.cell? ⟨w.heap.size,0,none⟩ = some (.int .u64 (n64 a))∧w'.cell? ⟨w.heap.size,1,none⟩ = some (.int .u64 (n64 b))∧w'.cell? ⟨w.heap.size,2,none⟩ = some (.int .u64 (n64 c))∧w'.cell? ⟨w.heap.size,3,none⟩ = some (.int .u64 (n64 d))∧w'.cell? ⟨ntwo,0,none⟩ = some (.int .u64 (n64 vtwo0))∧w'.cell? ⟨ntwo,1,none⟩ = some (.int .u64 (n64 vtwo1))∧w'.cell? ⟨ntwo,2,none⟩ = some (.int .u64 (n64 vtwo2))∧w'.cell? ⟨ntwo,3,none⟩ = some (.int .u64 (n64 vtwo3)))
   (refine ⟨Ext.cell (w:=wc) ?_ fe_0,Ext.cell (w:=wc) ?_ fe_1,Ext.cell (w:=wc) ?_ fe_2,Ext.cell (w:=wc) ?_ fe_3,Ext.cell (w:=wc) ?_ ftwo_0,Ext.cell (w:=wc) ?_ ftwo_1,Ext.cell (w:=wc) ?_ ftwo_2,Ext.cell (w:=wc) ?_ ftwo_3⟩ <;> (repeat (first | exact Ext.refl _ | assumption | exact qad _ _ | exact qae _ | exact qaa _ _ | refine Ext.trans ?_ (qaa _ _) | refine Ext.trans ?_ (qad _ _) | refine Ext.trans ?_ (qae _))))
   (first
    | (go_at_call 85;with_reducible refine (qb1 _ _ _ _ _ _ _ _ _).mono ?_;rintro e w' ⟨r0,r1,r2,r3,rfl,hr,hx⟩;obtain ⟨l',rfl⟩:=qah hx;clear hx)
    | (go_at_call 104;with_reducible refine (qkc _ _ _ _ _).mono ?_;rintro e w' ⟨q0,q1,q2,q3,rfl,hq,hx⟩;obtain ⟨l',rfl⟩:=qah hx;clear hx))
  all_goals
   go_wp2_with fail
   go_meet
   case rel=>exact ⟨_,r0,r1,r2,r3,rfl,by (first | exact C4.new _ _ _ _ _ _ | exact (C4.new _ _ _ _ _ _).ext (qad _ _) | exact (C4.new _ _ _ _ _ _).ext (qae _) | exact ((C4.new _ _ _ _ _ _).ext (qae _)).ext (qad _ _)),by (repeat (first | exact Ext.refl _ | assumption | exact qad _ _ | exact qae _ | exact qaa _ _ | refine Ext.trans ?_ (qaa _ _) | refine Ext.trans ?_ (qad _ _) | refine Ext.trans ?_ (qae _))),by (first | exact HE.out.size_ | (refine Nat.le_trans HE.out.size_ (Ext.size_ ?_);(repeat (first | exact Ext.refl _ | assumption | exact qad _ _ | exact qae _ | exact qaa _ _ | refine Ext.trans ?_ (qaa _ _) | refine Ext.trans ?_ (qad _ _) | refine Ext.trans ?_ (qae _))))),qdp 9 (qfv 2 _ htwo.out hq rfl) he.out hr (by decide)⟩
 case rest =>
 obtain ⟨nnine,vnine0,vnine1,vnine2,vnine3,rfl,hc,hE,hsznine,hv⟩:=hcut
 have hnine:=Lib.hid hv
 clear hv
 clear fe_0
 clear fe_1
 clear fe_2
 clear fe_3
 replace ftwo_0:=hE.cell ftwo_0
 replace ftwo_1:=hE.cell ftwo_1
 replace ftwo_2:=hE.cell ftwo_2
 replace ftwo_3:=hE.cell ftwo_3
 obtain ⟨fnine_0,fnine_1,fnine_2,fnine_3⟩:=hc
 replace HE:=Lib.hid (HE.out.trans hE)
 clear hE
 go_upto_region 3 with fail
 go_cut [6] from 21 to 23 (fun p wx=>∃ (n : Nat) (s0 s1 s2 s3 : UInt64),p = .pointer (some ⟨n,0,none⟩)∧C4 wx n s0 s1 s2 s3∧Ext wc wx∧W.heap.size ≤ n∧qb7 (val4 s0 s1 s2 s3) (val4 a b c d) 11)
 case first =>
  go_wp2_with (go_at_call 85;with_reducible refine (qb1 _ _ _ _ _ _ _ _ _).mono ?_;rintro e w' ⟨r0,r1,r2,r3,rfl,hr,hx⟩;obtain ⟨l',rfl⟩:=qah hx;clear hx)
  go_meet
  case rel=>exact ⟨_,r0,r1,r2,r3,rfl,by (first | exact C4.new _ _ _ _ _ _ | exact (C4.new _ _ _ _ _ _).ext (qad _ _) | exact (C4.new _ _ _ _ _ _).ext (qae _) | exact ((C4.new _ _ _ _ _ _).ext (qae _)).ext (qad _ _)),by (repeat (first | exact Ext.refl _ | assumption | exact qad _ _ | exact qae _ | exact qaa _ _ | refine Ext.trans ?_ (qaa _ _) | refine Ext.trans ?_ (qad _ _) | refine Ext.trans ?_ (qae _))),by (first | exact HE.out.size_ | (refine Nat.le_trans HE.out.size_ (Ext.size_ ?_);(repeat (first | exact Ext.refl _ | assumption | exact qad _ _ | exact qae _ | exact qaa _ _ | refine Ext.trans ?_ (qaa _ _) | refine Ext.trans ?_ (qad _ _) | refine Ext.trans ?_ (qae _))))),qdp 11 hnine.out htwo.out hr (by decide)⟩
 case rest =>
 obtain ⟨nelev,velev0,velev1,velev2,velev3,rfl,hc,hE,hszelev,hv⟩:=hcut
 have helev:=Lib.hid hv
 clear hv
 clear ftwo_0
 clear ftwo_1
 clear ftwo_2
 clear ftwo_3
 replace fnine_0:=hE.cell fnine_0
 replace fnine_1:=hE.cell fnine_1
 replace fnine_2:=hE.cell fnine_2
 replace fnine_3:=hE.cell fnine_3
 obtain ⟨felev_0,felev_1,felev_2,felev_3⟩:=hc
 replace HE:=Lib.hid (HE.out.trans hE)
 clear hE
 go_upto_region 4 with fail
 go_cut [7] from 24 to 28 (fun p wx=>∃ (n : Nat) (s0 s1 s2 s3 : UInt64),p = .pointer (some ⟨n,0,none⟩)∧C4 wx n s0 s1 s2 s3∧Ext wc wx∧W.heap.size ≤ n∧qb7 (val4 s0 s1 s2 s3) (val4 a b c d) (2 ^ 5 - 1))
 case first =>
  go_region_held3 (fun w'=>w'.cell? ⟨nelev,0,none⟩ = some (.int .u64 (n64 velev0))∧w'.cell? ⟨nelev,1,none⟩ = some (.int .u64 (n64 velev1))∧w'.cell? ⟨nelev,2,none⟩ = some (.int .u64 (n64 velev2))∧w'.cell? ⟨nelev,3,none⟩ = some (.int .u64 (n64 velev3))∧w'.cell? ⟨nnine,0,none⟩ = some (.int .u64 (n64 vnine0))∧w'.cell? ⟨nnine,1,none⟩ = some (.int .u64 (n64 vnine1))∧w'.cell? ⟨nnine,2,none⟩ = some (.int .u64 (n64 vnine2))∧w'.cell? ⟨nnine,3,none⟩ = some (.int .u64 (n64 vnine3)))
   (refine ⟨Ext.cell (w:=wc) ?_ felev_0,Ext.cell (w:=wc) ?_ felev_1,Ext.cell (w:=wc) ?_ felev_2,Ext.cell (w:=wc) ?_ felev_3,Ext.cell (w:=wc) ?_ fnine_0,Ext.cell (w:=wc) ?_ fnine_1,Ext.cell (w:=wc) ?_ fnine_2,Ext.cell (w:=wc) ?_ fnine_3⟩ <;> (repeat (first | exact Ext.refl _ | assumption | exact qad _ _ | exact qae _ | exact qaa _ _ | refine Ext.trans ?_ (qaa _ _) | refine Ext.trans ?_ (qad _ _) | refine Ext.trans ?_ (qae _))))
   (first
    | (go_at_call 85;with_reducible refine (qb1 velev0 velev1 velev2 velev3 _ _ _ _ _).mono ?_;rintro e w' ⟨q0,q1,q2,q3,rfl,hq,hx⟩;obtain ⟨l',rfl⟩:=qah hx;clear hx)
    | (go_at_call 85;with_reducible refine (qb1 _ _ _ _ _ _ _ _ _).mono ?_;rintro e w' ⟨r0,r1,r2,r3,rfl,hr,hx⟩;obtain ⟨l',rfl⟩:=qah hx;clear hx))
  all_goals
   go_wp2_with fail
   go_meet
   case rel=>exact ⟨_,r0,r1,r2,r3,rfl,by (first | exact C4.new _ _ _ _ _ _ | exact (C4.new _ _ _ _ _ _).ext (qad _ _) | exact (C4.new _ _ _ _ _ _).ext (qae _) | exact ((C4.new _ _ _ _ _ _).ext (qae _)).ext (qad _ _)),by (repeat (first | exact Ext.refl _ | assumption | exact qad _ _ | exact qae _ | exact qaa _ _ | refine Ext.trans ?_ (qaa _ _) | refine Ext.trans ?_ (qad _ _) | refine Ext.trans ?_ (qae _))),by (first | exact HE.out.size_ | (refine Nat.le_trans HE.out.size_ (Ext.size_ ?_);(repeat (first | exact Ext.refl _ | assumption | exact qad _ _ | exact qae _ | exact qaa _ _ | refine Ext.trans ?_ (qaa _ _) | refine Ext.trans ?_ (qad _ _) | refine Ext.trans ?_ (qae _))))),qdp (2 ^ 5 - 1) (qdp _ helev.out helev.out hq rfl) hnine.out hr (by decide)⟩
 case rest =>
 obtain ⟨nfive,vfive0,vfive1,vfive2,vfive3,rfl,hc,hE,hszfive,hv⟩:=hcut
 have hfive:=Lib.hid hv
 clear hv
 clear fnine_0
 clear fnine_1
 clear fnine_2
 clear fnine_3
 replace felev_0:=hE.cell felev_0
 replace felev_1:=hE.cell felev_1
 replace felev_2:=hE.cell felev_2
 replace felev_3:=hE.cell felev_3
 obtain ⟨ffive_0,ffive_1,ffive_2,ffive_3⟩:=hc
 replace HE:=Lib.hid (HE.out.trans hE)
 clear hE
 go_upto_region 5 with fail
 go_cut [8] from 29 to 32 (fun p wx=>∃ (n : Nat) (s0 s1 s2 s3 : UInt64),p = .pointer (some ⟨n,0,none⟩)∧C4 wx n s0 s1 s2 s3∧Ext wc wx∧W.heap.size ≤ n∧qb7 (val4 s0 s1 s2 s3) (val4 a b c d) (2 ^ 10 - 1))
 case first =>
  go_region_held3 (fun w'=>w'.cell? ⟨nfive,0,none⟩ = some (.int .u64 (n64 vfive0))∧w'.cell? ⟨nfive,1,none⟩ = some (.int .u64 (n64 vfive1))∧w'.cell? ⟨nfive,2,none⟩ = some (.int .u64 (n64 vfive2))∧w'.cell? ⟨nfive,3,none⟩ = some (.int .u64 (n64 vfive3)))
   (refine ⟨Ext.cell (w:=wc) ?_ ffive_0,Ext.cell (w:=wc) ?_ ffive_1,Ext.cell (w:=wc) ?_ ffive_2,Ext.cell (w:=wc) ?_ ffive_3⟩ <;> (repeat (first | exact Ext.refl _ | assumption | exact qad _ _ | exact qae _ | exact qaa _ _ | refine Ext.trans ?_ (qaa _ _) | refine Ext.trans ?_ (qad _ _) | refine Ext.trans ?_ (qae _))))
   (first
    | (go_at_call 85;with_reducible refine (qb1 _ _ _ _ _ _ _ _ _).mono ?_;rintro e w' ⟨r0,r1,r2,r3,rfl,hr,hx⟩;obtain ⟨l',rfl⟩:=qah hx;clear hx)
    | (go_at_call 104;with_reducible refine (qkb _ _ _ _ _).mono ?_;rintro e w' ⟨q0,q1,q2,q3,rfl,hq,hx⟩;obtain ⟨l',rfl⟩:=qah hx;clear hx))
  all_goals
   go_wp2_with fail
   go_meet
   case rel=>exact ⟨_,r0,r1,r2,r3,rfl,by (first | exact C4.new _ _ _ _ _ _ | exact (C4.new _ _ _ _ _ _).ext (qad _ _) | exact (C4.new _ _ _ _ _ _).ext (qae _) | exact ((C4.new _ _ _ _ _ _).ext (qae _)).ext (qad _ _)),by (repeat (first | exact Ext.refl _ | assumption | exact qad _ _ | exact qae _ | exact qaa _ _ | refine Ext.trans ?_ (qaa _ _) | refine Ext.trans ?_ (qad _ _) | refine Ext.trans ?_ (qae _))),by (first | exact HE.out.size_ | (refine Nat.le_trans HE.out.size_ (Ext.size_ ?_);(repeat (first | exact Ext.refl _ | assumption | exact qad _ _ | exact qae _ | exact qaa _ _ | refine Ext.trans ?_ (qaa _ _) | refine Ext.trans ?_ (qad _ _) | refine Ext.trans ?_ (qae _))))),qdp (2 ^ 10 - 1) (qfv 5 _ hfive.out hq rfl) hfive.out hr (by decide)⟩
 case rest =>
 obtain ⟨nten,vten0,vten1,vten2,vten3,rfl,hc,hE,hszten,hv⟩:=hcut
 have hten:=Lib.hid hv
 clear hv
 replace felev_0:=hE.cell felev_0
 replace felev_1:=hE.cell felev_1
 replace felev_2:=hE.cell felev_2
 replace felev_3:=hE.cell felev_3
 clear ffive_0
 clear ffive_1
 clear ffive_2
 clear ffive_3
 obtain ⟨ften_0,ften_1,ften_2,ften_3⟩:=hc
 replace HE:=Lib.hid (HE.out.trans hE)
 clear hE
 go_upto_region 6 with fail
 go_cut [9] from 33 to 36 (fun p wx=>∃ (n : Nat) (s0 s1 s2 s3 : UInt64),p = .pointer (some ⟨n,0,none⟩)∧C4 wx n s0 s1 s2 s3∧Ext wc wx∧W.heap.size ≤ n∧qb7 (val4 s0 s1 s2 s3) (val4 a b c d) (2 ^ 20 - 1))
 case first =>
  go_region_held3 (fun w'=>w'.cell? ⟨nten,0,none⟩ = some (.int .u64 (n64 vten0))∧w'.cell? ⟨nten,1,none⟩ = some (.int .u64 (n64 vten1))∧w'.cell? ⟨nten,2,none⟩ = some (.int .u64 (n64 vten2))∧w'.cell? ⟨nten,3,none⟩ = some (.int .u64 (n64 vten3)))
   (refine ⟨Ext.cell (w:=wc) ?_ ften_0,Ext.cell (w:=wc) ?_ ften_1,Ext.cell (w:=wc) ?_ ften_2,Ext.cell (w:=wc) ?_ ften_3⟩ <;> (repeat (first | exact Ext.refl _ | assumption | exact qad _ _ | exact qae _ | exact qaa _ _ | refine Ext.trans ?_ (qaa _ _) | refine Ext.trans ?_ (qad _ _) | refine Ext.trans ?_ (qae _))))
   (first
    | (go_at_call 85;with_reducible refine (qb1 _ _ _ _ _ _ _ _ _).mono ?_;rintro e w' ⟨r0,r1,r2,r3,rfl,hr,hx⟩;obtain ⟨l',rfl⟩:=qah hx;clear hx)
    | (go_at_call 104;with_reducible refine (qiv _ _ _ _ _).mono ?_;rintro e w' ⟨q0,q1,q2,q3,rfl,hq,hx⟩;obtain ⟨l',rfl⟩:=qah hx;clear hx))
  all_goals
   go_wp2_with fail
   go_meet
   case rel=>exact ⟨_,r0,r1,r2,r3,rfl,by (first | exact C4.new _ _ _ _ _ _ | exact (C4.new _ _ _ _ _ _).ext (qad _ _) | exact (C4.new _ _ _ _ _ _).ext (qae _) | exact ((C4.new _ _ _ _ _ _).ext (qae _)).ext (qad _ _)),by (repeat (first | exact Ext.refl _ | assumption | exact qad _ _ | exact qae _ | exact qaa _ _ | refine Ext.trans ?_ (qaa _ _) | refine Ext.trans ?_ (qad _ _) | refine Ext.trans ?_ (qae _))),by (first | exact HE.out.size_ | (refine Nat.le_trans HE.out.size_ (Ext.size_ ?_);(repeat (first | exact Ext.refl _ | assumption | exact qad _ _ | exact qae _ | exact qaa _ _ | refine Ext.trans ?_ (qaa _ _) | refine Ext.trans ?_ (qad _ _) | refine Ext.trans ?_ (qae _))))),qdp (2 ^ 20 - 1) (qfv 10 _ hten.out hq rfl) hten.out hr (by decide)⟩
 case rest =>
 obtain ⟨ntwen,vtwen0,vtwen1,vtwen2,vtwen3,rfl,hc,hE,hsztwen,hv⟩:=hcut
 have htwen:=Lib.hid hv
 clear hv
 replace felev_0:=hE.cell felev_0
 replace felev_1:=hE.cell felev_1
 replace felev_2:=hE.cell felev_2
 replace felev_3:=hE.cell felev_3
 replace ften_0:=hE.cell ften_0
 replace ften_1:=hE.cell ften_1
 replace ften_2:=hE.cell ften_2
 replace ften_3:=hE.cell ften_3
 obtain ⟨ftwen_0,ftwen_1,ftwen_2,ftwen_3⟩:=hc
 replace HE:=Lib.hid (HE.out.trans hE)
 clear hE
 go_upto_region 7 with fail
 go_cut [10] from 37 to 40 (fun p wx=>∃ (n : Nat) (s0 s1 s2 s3 : UInt64),p = .pointer (some ⟨n,0,none⟩)∧C4 wx n s0 s1 s2 s3∧Ext wc wx∧W.heap.size ≤ n∧qb7 (val4 s0 s1 s2 s3) (val4 a b c d) (2 ^ 40 - 1))
 case first =>
  go_region_held3 (fun w'=>w'.cell? ⟨ntwen,0,none⟩ = some (.int .u64 (n64 vtwen0))∧w'.cell? ⟨ntwen,1,none⟩ = some (.int .u64 (n64 vtwen1))∧w'.cell? ⟨ntwen,2,none⟩ = some (.int .u64 (n64 vtwen2))∧w'.cell? ⟨ntwen,3,none⟩ = some (.int .u64 (n64 vtwen3)))
   (refine ⟨Ext.cell (w:=wc) ?_ ftwen_0,Ext.cell (w:=wc) ?_ ftwen_1,Ext.cell (w:=wc) ?_ ftwen_2,Ext.cell (w:=wc) ?_ ftwen_3⟩ <;> (repeat (first | exact Ext.refl _ | assumption | exact qad _ _ | exact qae _ | exact qaa _ _ | refine Ext.trans ?_ (qaa _ _) | refine Ext.trans ?_ (qad _ _) | refine Ext.trans ?_ (qae _))))
   (first
    | (go_at_call 85;with_reducible refine (qb1 _ _ _ _ _ _ _ _ _).mono ?_;rintro e w' ⟨r0,r1,r2,r3,rfl,hr,hx⟩;obtain ⟨l',rfl⟩:=qah hx;clear hx)
    | (go_at_call 104;with_reducible refine (qn1 _ _ _ _ _).mono ?_;rintro e w' ⟨q0,q1,q2,q3,rfl,hq,hx⟩;obtain ⟨l',rfl⟩:=qah hx;clear hx))
  all_goals
   go_wp2_with fail
   go_meet
   case rel=>exact ⟨_,r0,r1,r2,r3,rfl,by (first | exact C4.new _ _ _ _ _ _ | exact (C4.new _ _ _ _ _ _).ext (qad _ _) | exact (C4.new _ _ _ _ _ _).ext (qae _) | exact ((C4.new _ _ _ _ _ _).ext (qae _)).ext (qad _ _)),by (repeat (first | exact Ext.refl _ | assumption | exact qad _ _ | exact qae _ | exact qaa _ _ | refine Ext.trans ?_ (qaa _ _) | refine Ext.trans ?_ (qad _ _) | refine Ext.trans ?_ (qae _))),by (first | exact HE.out.size_ | (refine Nat.le_trans HE.out.size_ (Ext.size_ ?_);(repeat (first | exact Ext.refl _ | assumption | exact qad _ _ | exact qae _ | exact qaa _ _ | refine Ext.trans ?_ (qaa _ _) | refine Ext.trans ?_ (qad _ _) | refine Ext.trans ?_ (qae _))))),qdp (2 ^ 40 - 1) (qfv 20 _ htwen.out hq rfl) htwen.out hr (by decide)⟩
 case rest =>
 obtain ⟨nfort,vfort0,vfort1,vfort2,vfort3,rfl,hc,hE,hszfort,hv⟩:=hcut
 have hfort:=Lib.hid hv
 clear hv
 replace felev_0:=hE.cell felev_0
 replace felev_1:=hE.cell felev_1
 replace felev_2:=hE.cell felev_2
 replace felev_3:=hE.cell felev_3
 replace ften_0:=hE.cell ften_0
 replace ften_1:=hE.cell ften_1
 replace ften_2:=hE.cell ften_2
 replace ften_3:=hE.cell ften_3
 clear ftwen_0
 clear ftwen_1
 clear ftwen_2
 clear ftwen_3
 obtain ⟨ffort_0,ffort_1,ffort_2,ffort_3⟩:=hc
 replace HE:=Lib.hid (HE.out.trans hE)
 clear hE
 go_upto_region 8 with fail
 go_cut [11] from 41 to 44 (fun p wx=>∃ (n : Nat) (s0 s1 s2 s3 : UInt64),p = .pointer (some ⟨n,0,none⟩)∧C4 wx n s0 s1 s2 s3∧Ext wc wx∧W.heap.size ≤ n∧qb7 (val4 s0 s1 s2 s3) (val4 a b c d) (2 ^ 50 - 1))
 case first =>
  go_region_held3 (fun w'=>w'.cell? ⟨nfort,0,none⟩ = some (.int .u64 (n64 vfort0))∧w'.cell? ⟨nfort,1,none⟩ = some (.int .u64 (n64 vfort1))∧w'.cell? ⟨nfort,2,none⟩ = some (.int .u64 (n64 vfort2))∧w'.cell? ⟨nfort,3,none⟩ = some (.int .u64 (n64 vfort3))∧w'.cell? ⟨nten,0,none⟩ = some (.int .u64 (n64 vten0))∧w'.cell? ⟨nten,1,none⟩ = some (.int .u64 (n64 vten1))∧w'.cell? ⟨nten,2,none⟩ = some (.int .u64 (n64 vten2))∧w'.cell? ⟨nten,3,none⟩ = some (.int .u64 (n64 vten3)))
   (refine ⟨Ext.cell (w:=wc) ?_ ffort_0,Ext.cell (w:=wc) ?_ ffort_1,Ext.cell (w:=wc) ?_ ffort_2,Ext.cell (w:=wc) ?_ ffort_3,Ext.cell (w:=wc) ?_ ften_0,Ext.cell (w:=wc) ?_ ften_1,Ext.cell (w:=wc) ?_ ften_2,Ext.cell (w:=wc) ?_ ften_3⟩ <;> (repeat (first | exact Ext.refl _ | assumption | exact qad _ _ | exact qae _ | exact qaa _ _ | refine Ext.trans ?_ (qaa _ _) | refine Ext.trans ?_ (qad _ _) | refine Ext.trans ?_ (qae _))))
   (first
    | (go_at_call 85;with_reducible refine (qb1 _ _ _ _ _ _ _ _ _).mono ?_;rintro e w' ⟨r0,r1,r2,r3,rfl,hr,hx⟩;obtain ⟨l',rfl⟩:=qah hx;clear hx)
    | (go_at_call 104;with_reducible refine (qiv _ _ _ _ _).mono ?_;rintro e w' ⟨q0,q1,q2,q3,rfl,hq,hx⟩;obtain ⟨l',rfl⟩:=qah hx;clear hx))
  all_goals
   go_wp2_with fail
   go_meet
   case rel=>exact ⟨_,r0,r1,r2,r3,rfl,by (first | exact C4.new _ _ _ _ _ _ | exact (C4.new _ _ _ _ _ _).ext (qad _ _) | exact (C4.new _ _ _ _ _ _).ext (qae _) | exact ((C4.new _ _ _ _ _ _).ext (qae _)).ext (qad _ _)),by (repeat (first | exact Ext.refl _ | assumption | exact qad _ _ | exact qae _ | exact qaa _ _ | refine Ext.trans ?_ (qaa _ _) | refine Ext.trans ?_ (qad _ _) | refine Ext.trans ?_ (qae _))),by (first | exact HE.out.size_ | (refine Nat.le_trans HE.out.size_ (Ext.size_ ?_);(repeat (first | exact Ext.refl _ | assumption | exact qad _ _ | exact qae _ | exact qaa _ _ | refine Ext.trans ?_ (qaa _ _) | refine Ext.trans ?_ (qad _ _) | refine Ext.trans ?_ (qae _))))),qdp (2 ^ 50 - 1) (qfv 10 _ hfort.out hq rfl) hten.out hr (by decide)⟩
 case rest =>
 obtain ⟨nfift,vfift0,vfift1,vfift2,vfift3,rfl,hc,hE,hszfift,hv⟩:=hcut
 have hfift:=Lib.hid hv
 clear hv
 replace felev_0:=hE.cell felev_0
 replace felev_1:=hE.cell felev_1
 replace felev_2:=hE.cell felev_2
 replace felev_3:=hE.cell felev_3
 clear ften_0
 clear ften_1
 clear ften_2
 clear ften_3
 clear ffort_0
 clear ffort_1
 clear ffort_2
 clear ffort_3
 obtain ⟨ffift_0,ffift_1,ffift_2,ffift_3⟩:=hc
 replace HE:=Lib.hid (HE.out.trans hE)
 clear hE
 go_upto_region 9 with fail
 go_cut [12] from 45 to 48 (fun p wx=>∃ (n : Nat) (s0 s1 s2 s3 : UInt64),p = .pointer (some ⟨n,0,none⟩)∧C4 wx n s0 s1 s2 s3∧Ext wc wx∧W.heap.size ≤ n∧qb7 (val4 s0 s1 s2 s3) (val4 a b c d) (2 ^ 100 - 1))
 case first =>
  go_region_held3 (fun w'=>w'.cell? ⟨nfift,0,none⟩ = some (.int .u64 (n64 vfift0))∧w'.cell? ⟨nfift,1,none⟩ = some (.int .u64 (n64 vfift1))∧w'.cell? ⟨nfift,2,none⟩ = some (.int .u64 (n64 vfift2))∧w'.cell? ⟨nfift,3,none⟩ = some (.int .u64 (n64 vfift3)))
   (refine ⟨Ext.cell (w:=wc) ?_ ffift_0,Ext.cell (w:=wc) ?_ ffift_1,Ext.cell (w:=wc) ?_ ffift_2,Ext.cell (w:=wc) ?_ ffift_3⟩ <;> (repeat (first | exact Ext.refl _ | assumption | exact qad _ _ | exact qae _ | exact qaa _ _ | refine Ext.trans ?_ (qaa _ _) | refine Ext.trans ?_ (qad _ _) | refine Ext.trans ?_ (qae _))))
   (first
    | (go_at_call 85;with_reducible refine (qb1 _ _ _ _ _ _ _ _ _).mono ?_;rintro e w' ⟨r0,r1,r2,r3,rfl,hr,hx⟩;obtain ⟨l',rfl⟩:=qah hx;clear hx)
    | (go_at_call 104;with_reducible refine (qiu _ _ _ _ _).mono ?_;rintro e w' ⟨q0,q1,q2,q3,rfl,hq,hx⟩;obtain ⟨l',rfl⟩:=qah hx;clear hx))
  all_goals
   go_wp2_with fail
   go_meet
   case rel=>exact ⟨_,r0,r1,r2,r3,rfl,by (first | exact C4.new _ _ _ _ _ _ | exact (C4.new _ _ _ _ _ _).ext (qad _ _) | exact (C4.new _ _ _ _ _ _).ext (qae _) | exact ((C4.new _ _ _ _ _ _).ext (qae _)).ext (qad _ _)),by (repeat (first | exact Ext.refl _ | assumption | exact qad _ _ | exact qae _ | exact qaa _ _ | refine Ext.trans ?_ (qaa _ _) | refine Ext.trans ?_ (qad _ _) | refine Ext.trans ?_ (qae _))),by (first | exact HE.out.size_ | (refine Nat.le_trans HE.out.size_ (Ext.size_ ?_);(repeat (first | exact Ext.refl _ | assumption | exact qad _ _ | exact qae _ | exact qaa _ _ | refine Ext.trans ?_ (qaa _ _) | refine Ext.trans ?_ (qad _ _) | refine Ext.trans ?_ (qae _))))),qdp (2 ^ 100 - 1) (qfv 50 _ hfift.out hq rfl) hfift.out hr (by decide)⟩
 case rest =>
 obtain ⟨nhund,vhund0,vhund1,vhund2,vhund3,rfl,hc,hE,hszhund,hv⟩:=hcut
 have hhund:=Lib.hid hv
 clear hv
 replace felev_0:=hE.cell felev_0
 replace felev_1:=hE.cell felev_1
 replace felev_2:=hE.cell felev_2
 replace felev_3:=hE.cell felev_3
 replace ffift_0:=hE.cell ffift_0
 replace ffift_1:=hE.cell ffift_1
 replace ffift_2:=hE.cell ffift_2
 replace ffift_3:=hE.cell ffift_3
 obtain ⟨fhund_0,fhund_1,fhund_2,fhund_3⟩:=hc
 replace HE:=Lib.hid (HE.out.trans hE)
 clear hE
 go_upto_region 10 with fail
 go_cut [13] from 49 to 52 (fun p wx=>∃ (n : Nat) (s0 s1 s2 s3 : UInt64),p = .pointer (some ⟨n,0,none⟩)∧C4 wx n s0 s1 s2 s3∧Ext wc wx∧W.heap.size ≤ n∧qb7 (val4 s0 s1 s2 s3) (val4 a b c d) (2 ^ 200 - 1))
 case first =>
  go_region_held3 (fun w'=>w'.cell? ⟨nhund,0,none⟩ = some (.int .u64 (n64 vhund0))∧w'.cell? ⟨nhund,1,none⟩ = some (.int .u64 (n64 vhund1))∧w'.cell? ⟨nhund,2,none⟩ = some (.int .u64 (n64 vhund2))∧w'.cell? ⟨nhund,3,none⟩ = some (.int .u64 (n64 vhund3)))
   (refine ⟨Ext.cell (w:=wc) ?_ fhund_0,Ext.cell (w:=wc) ?_ fhund_1,Ext.cell (w:=wc) ?_ fhund_2,Ext.cell (w:=wc) ?_ fhund_3⟩ <;> (repeat (first | exact Ext.refl _ | assumption | exact qad _ _ | exact qae _ | exact qaa _ _ | refine Ext.trans ?_ (qaa _ _) | refine Ext.trans ?_ (qad _ _) | refine Ext.trans ?_ (qae _))))
   (first
    | (go_at_call 85;with_reducible refine (qb1 _ _ _ _ _ _ _ _ _).mono ?_;rintro e w' ⟨r0,r1,r2,r3,rfl,hr,hx⟩;obtain ⟨l',rfl⟩:=qah hx;clear hx)
    | (go_at_call 104;with_reducible refine (qlq _ _ _ _ _).mono ?_;rintro e w' ⟨q0,q1,q2,q3,rfl,hq,hx⟩;obtain ⟨l',rfl⟩:=qah hx;clear hx))
  all_goals
   go_wp2_with fail
   go_meet
   case rel=>exact ⟨_,r0,r1,r2,r3,rfl,by (first | exact C4.new _ _ _ _ _ _ | exact (C4.new _ _ _ _ _ _).ext (qad _ _) | exact (C4.new _ _ _ _ _ _).ext (qae _) | exact ((C4.new _ _ _ _ _ _).ext (qae _)).ext (qad _ _)),by (repeat (first | exact Ext.refl _ | assumption | exact qad _ _ | exact qae _ | exact qaa _ _ | refine Ext.trans ?_ (qaa _ _) | refine Ext.trans ?_ (qad _ _) | refine Ext.trans ?_ (qae _))),by (first | exact HE.out.size_ | (refine Nat.le_trans HE.out.size_ (Ext.size_ ?_);(repeat (first | exact Ext.refl _ | assumption | exact qad _ _ | exact qae _ | exact qaa _ _ | refine Ext.trans ?_ (qaa _ _) | refine Ext.trans ?_ (qad _ _) | refine Ext.trans ?_ (qae _))))),qdp (2 ^ 200 - 1) (qfv 100 _ hhund.out hq rfl) hhund.out hr (by decide)⟩
 case rest =>
 obtain ⟨nmore,vmore0,vmore1,vmore2,vmore3,rfl,hc,hE,hszmore,hv⟩:=hcut
 have hmore:=Lib.hid hv
 clear hv
 replace felev_0:=hE.cell felev_0
 replace felev_1:=hE.cell felev_1
 replace felev_2:=hE.cell felev_2
 replace felev_3:=hE.cell felev_3
 replace ffift_0:=hE.cell ffift_0
 replace ffift_1:=hE.cell ffift_1
 replace ffift_2:=hE.cell ffift_2
 replace ffift_3:=hE.cell ffift_3
 clear fhund_0
 clear fhund_1
 clear fhund_2
 clear fhund_3
 obtain ⟨fmore_0,fmore_1,fmore_2,fmore_3⟩:=hc
 replace HE:=Lib.hid (HE.out.trans hE)
 clear hE
 go_upto_region 11 with fail
 obtain ⟨x,hx⟩:=qah HE.out
 have hW:=HW.out
 have lm : nmore < wc.heap.size:=World.block_lt_of_cell? _ _ fmore_0
 have lf : nfift < wc.heap.size:=World.block_lt_of_cell? _ _ ffift_0
 have le : nelev < wc.heap.size:=World.block_lt_of_cell? _ _ felev_0
 clear HE HW HN hne ne
 have gmore_0 : ∀ (c1 c2 : Array Value) (z : Nat) (o : Array Obj),(grw (((w.alloc (.cells (w4 a b c d) 101)).alloc (.cells c1 101)).alloc (.cells c2 101)) (z,x.2 ++ o)).cell? ⟨nmore,0,none⟩ = some (.int .u64 (n64 vmore0)):=fun c1 c2 z o=>qav (w:=W) (by rw [hW];simp) hszmore (hx ▸ fmore_0) z o
 have dmore_0 : ∀ (c1 c2 : Array Value) (z : Nat),(grw (((w.alloc (.cells (w4 a b c d) 101)).alloc (.cells c1 101)).alloc (.cells c2 101)) (z,x.2)).cell? ⟨nmore,0,none⟩ = some (.int .u64 (n64 vmore0)):=fun c1 c2 z=>by have:=gmore_0 c1 c2 z #[];rwa [Array.append_empty] at this
 clear fmore_0
 have gmore_1 : ∀ (c1 c2 : Array Value) (z : Nat) (o : Array Obj),(grw (((w.alloc (.cells (w4 a b c d) 101)).alloc (.cells c1 101)).alloc (.cells c2 101)) (z,x.2 ++ o)).cell? ⟨nmore,1,none⟩ = some (.int .u64 (n64 vmore1)):=fun c1 c2 z o=>qav (w:=W) (by rw [hW];simp) hszmore (hx ▸ fmore_1) z o
 have dmore_1 : ∀ (c1 c2 : Array Value) (z : Nat),(grw (((w.alloc (.cells (w4 a b c d) 101)).alloc (.cells c1 101)).alloc (.cells c2 101)) (z,x.2)).cell? ⟨nmore,1,none⟩ = some (.int .u64 (n64 vmore1)):=fun c1 c2 z=>by have:=gmore_1 c1 c2 z #[];rwa [Array.append_empty] at this
 clear fmore_1
 have gmore_2 : ∀ (c1 c2 : Array Value) (z : Nat) (o : Array Obj),(grw (((w.alloc (.cells (w4 a b c d) 101)).alloc (.cells c1 101)).alloc (.cells c2 101)) (z,x.2 ++ o)).cell? ⟨nmore,2,none⟩ = some (.int .u64 (n64 vmore2)):=fun c1 c2 z o=>qav (w:=W) (by rw [hW];simp) hszmore (hx ▸ fmore_2) z o
 have dmore_2 : ∀ (c1 c2 : Array Value) (z : Nat),(grw (((w.alloc (.cells (w4 a b c d) 101)).alloc (.cells c1 101)).alloc (.cells c2 101)) (z,x.2)).cell? ⟨nmore,2,none⟩ = some (.int .u64 (n64 vmore2)):=fun c1 c2 z=>by have:=gmore_2 c1 c2 z #[];rwa [Array.append_empty] at this
 clear fmore_2
 have gmore_3 : ∀ (c1 c2 : Array Value) (z : Nat) (o : Array Obj),(grw (((w.alloc (.cells (w4 a b c d) 101)).alloc (.cells c1 101)).alloc (.cells c2 101)) (z,x.2 ++ o)).cell? ⟨nmore,3,none⟩ = some (.int .u64 (n64 vmore3)):=fun c1 c2 z o=>qav (w:=W) (by rw [hW];simp) hszmore (hx ▸ fmore_3) z o
 have dmore_3 : ∀ (c1 c2 : Array Value) (z : Nat),(grw (((w.alloc (.cells (w4 a b c d) 101)).alloc (.cells c1 101)).alloc (.cells c2 101)) (z,x.2)).cell? ⟨nmore,3,none⟩ = some (.int .u64 (n64 vmore3)):=fun c1 c2 z=>by have:=gmore_3 c1 c2 z #[];rwa [Array.append_empty] at this
 clear fmore_3
 clear hszmore
 have gfift_0 : ∀ (c1 c2 : Array Value) (z : Nat) (o : Array Obj),(grw (((w.alloc (.cells (w4 a b c d) 101)).alloc (.cells c1 101)).alloc (.cells c2 101)) (z,x.2 ++ o)).cell? ⟨nfift,0,none⟩ = some (.int .u64 (n64 vfift0)):=fun c1 c2 z o=>qav (w:=W) (by rw [hW];simp) hszfift (hx ▸ ffift_0) z o
 have dfift_0 : ∀ (c1 c2 : Array Value) (z : Nat),(grw (((w.alloc (.cells (w4 a b c d) 101)).alloc (.cells c1 101)).alloc (.cells c2 101)) (z,x.2)).cell? ⟨nfift,0,none⟩ = some (.int .u64 (n64 vfift0)):=fun c1 c2 z=>by have:=gfift_0 c1 c2 z #[];rwa [Array.append_empty] at this
 clear ffift_0
 have gfift_1 : ∀ (c1 c2 : Array Value) (z : Nat) (o : Array Obj),(grw (((w.alloc (.cells (w4 a b c d) 101)).alloc (.cells c1 101)).alloc (.cells c2 101)) (z,x.2 ++ o)).cell? ⟨nfift,1,none⟩ = some (.int .u64 (n64 vfift1)):=fun c1 c2 z o=>qav (w:=W) (by rw [hW];simp) hszfift (hx ▸ ffift_1) z o
 have dfift_1 : ∀ (c1 c2 : Array Value) (z : Nat),(grw (((w.alloc (.cells (w4 a b c d) 101)).alloc (.cells c1 101)).alloc (.cells c2 101)) (z,x.2)).cell? ⟨nfift,1,none⟩ = some (.int .u64 (n64 vfift1)):=fun c1 c2 z=>by have:=gfift_1 c1 c2 z #[];rwa [Array.append_empty] at this
 clear ffift_1
 have gfift_2 : ∀ (c1 c2 : Array Value) (z : Nat) (o : Array Obj),(grw (((w.alloc (.cells (w4 a b c d) 101)).alloc (.cells c1 101)).alloc (.cells c2 101)) (z,x.2 ++ o)).cell? ⟨nfift,2,none⟩ = some (.int .u64 (n64 vfift2)):=fun c1 c2 z o=>qav (w:=W) (by rw [hW];simp) hszfift (hx ▸ ffift_2) z o
 have dfift_2 : ∀ (c1 c2 : Array Value) (z : Nat),(grw (((w.alloc (.cells (w4 a b c d) 101)).alloc (.cells c1 101)).alloc (.cells c2 101)) (z,x.2)).cell? ⟨nfift,2,none⟩ = some (.int .u64 (n64 vfift2)):=fun c1 c2 z=>by have:=gfift_2 c1 c2 z #[];rwa [Array.append_empty] at this
 clear ffift_2
 have gfift_3 : ∀ (c1 c2 : Array Value) (z : Nat) (o : Array Obj),(grw (((w.alloc (.cells (w4 a b c d) 101)).alloc (.cells c1 101)).alloc (.cells c2 101)) (z,x.2 ++ o)).cell? ⟨nfift,3,none⟩ = some (.int .u64 (n64 vfift3)):=fun c1 c2 z o=>qav (w:=W) (by rw [hW];simp) hszfift (hx ▸ ffift_3) z o
 have dfift_3 : ∀ (c1 c2 : Array Value) (z : Nat),(grw (((w.alloc (.cells (w4 a b c d) 101)).alloc (.cells c1 101)).alloc (.cells c2 101)) (z,x.2)).cell? ⟨nfift,3,none⟩ = some (.int .u64 (n64 vfift3)):=fun c1 c2 z=>by have:=gfift_3 c1 c2 z #[];rwa [Array.append_empty] at this
 clear ffift_3
 clear hszfift
 have gelev_0 : ∀ (c1 c2 : Array Value) (z : Nat) (o : Array Obj),(grw (((w.alloc (.cells (w4 a b c d) 101)).alloc (.cells c1 101)).alloc (.cells c2 101)) (z,x.2 ++ o)).cell? ⟨nelev,0,none⟩ = some (.int .u64 (n64 velev0)):=fun c1 c2 z o=>qav (w:=W) (by rw [hW];simp) hszelev (hx ▸ felev_0) z o
 have delev_0 : ∀ (c1 c2 : Array Value) (z : Nat),(grw (((w.alloc (.cells (w4 a b c d) 101)).alloc (.cells c1 101)).alloc (.cells c2 101)) (z,x.2)).cell? ⟨nelev,0,none⟩ = some (.int .u64 (n64 velev0)):=fun c1 c2 z=>by have:=gelev_0 c1 c2 z #[];rwa [Array.append_empty] at this
 clear felev_0
 have gelev_1 : ∀ (c1 c2 : Array Value) (z : Nat) (o : Array Obj),(grw (((w.alloc (.cells (w4 a b c d) 101)).alloc (.cells c1 101)).alloc (.cells c2 101)) (z,x.2 ++ o)).cell? ⟨nelev,1,none⟩ = some (.int .u64 (n64 velev1)):=fun c1 c2 z o=>qav (w:=W) (by rw [hW];simp) hszelev (hx ▸ felev_1) z o
 have delev_1 : ∀ (c1 c2 : Array Value) (z : Nat),(grw (((w.alloc (.cells (w4 a b c d) 101)).alloc (.cells c1 101)).alloc (.cells c2 101)) (z,x.2)).cell? ⟨nelev,1,none⟩ = some (.int .u64 (n64 velev1)):=fun c1 c2 z=>by have:=gelev_1 c1 c2 z #[];rwa [Array.append_empty] at this
 clear felev_1
 have gelev_2 : ∀ (c1 c2 : Array Value) (z : Nat) (o : Array Obj),(grw (((w.alloc (.cells (w4 a b c d) 101)).alloc (.cells c1 101)).alloc (.cells c2 101)) (z,x.2 ++ o)).cell? ⟨nelev,2,none⟩ = some (.int .u64 (n64 velev2)):=fun c1 c2 z o=>qav (w:=W) (by rw [hW];simp) hszelev (hx ▸ felev_2) z o
 have delev_2 : ∀ (c1 c2 : Array Value) (z : Nat),(grw (((w.alloc (.cells (w4 a b c d) 101)).alloc (.cells c1 101)).alloc (.cells c2 101)) (z,x.2)).cell? ⟨nelev,2,none⟩ = some (.int .u64 (n64 velev2)):=fun c1 c2 z=>by have:=gelev_2 c1 c2 z #[];rwa [Array.append_empty] at this
 clear felev_2
 have gelev_3 : ∀ (c1 c2 : Array Value) (z : Nat) (o : Array Obj),(grw (((w.alloc (.cells (w4 a b c d) 101)).alloc (.cells c1 101)).alloc (.cells c2 101)) (z,x.2 ++ o)).cell? ⟨nelev,3,none⟩ = some (.int .u64 (n64 velev3)):=fun c1 c2 z o=>qav (w:=W) (by rw [hW];simp) hszelev (hx ▸ felev_3) z o
 have delev_3 : ∀ (c1 c2 : Array Value) (z : Nat),(grw (((w.alloc (.cells (w4 a b c d) 101)).alloc (.cells c1 101)).alloc (.cells c2 101)) (z,x.2)).cell? ⟨nelev,3,none⟩ = some (.int .u64 (n64 velev3)):=fun c1 c2 z=>by have:=gelev_3 c1 c2 z #[];rwa [Array.append_empty] at this
 clear felev_3
 clear hszelev
 clear lm lf le
 subst hx
 subst hW
 go_region_with
  (first
    | (go_at_call 85;with_reducible refine (qb1 _ _ _ _ _ _ _ _ _).mono ?_;rintro e w' ⟨r0,r1,r2,r3,rfl,hr,hx⟩;obtain ⟨l',rfl⟩:=qah hx;clear hx)
    | (go_at_call 104;with_reducible refine (qiu _ _ _ _ _).mono ?_;rintro e w' ⟨q0,q1,q2,q3,rfl,hq,hx⟩;obtain ⟨l',rfl⟩:=qah hx;clear hx))
 all_goals
  go_wp2
  refine bodyPost_ret_by (by simp [results,Tryz.results103,go_sem];rfl) rfl ?_
  exact ⟨r0,r1,r2,r3,velev0,velev1,velev2,velev3,rfl,qdp (2 ^ 250 - 1) (qfv 50 _ hmore.out hq rfl) hfift.out hr (by decide),helev.out,(((qaa _ _).trans (qaa _ _)).trans (qaa _ _)).trans (qad _ _)⟩
end Go.Proofs.YtgeihelkkhjjaaaGreatDoor
