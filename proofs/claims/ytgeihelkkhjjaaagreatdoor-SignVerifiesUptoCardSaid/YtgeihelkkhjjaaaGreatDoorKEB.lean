import Derived.Test.YtgeihelkkhjjaaaGreatDoorKEA
import Derived.Deep.WholeRow
import Derived.Deep.MidRow
import Derived.Deep.CutRange
set_option linter.unusedSimpArgs false
set_option linter.unusedVariables false
set_option maxRecDepth 4000
set_option maxHeartbeats 4000000
section
namespace Go.Cv
open Go.RowKit
theorem qld (f : Nat→UInt8) : ∃ c : Array Value,c = Array.ofFn (n:=32) (fun i=>Value.int .u8 (n8 (f i))):=⟨_,rfl⟩
noncomputable def qab (f : Nat→UInt8) : Array Value:=Classical.choose (qld f)
theorem qc5 (f : Nat→UInt8) : qab f = Array.ofFn (n:=32) (fun i=>Value.int .u8 (n8 (f i))):=Classical.choose_spec (qld f)
@[simp,go_sem] theorem qam (f : Nat→UInt8) : (qab f).size = 32:=by rw [qc5];simp
theorem qbp (f : Nat→UInt8) {i : Nat} (h : i < 32) : (qab f)[i]? = some (.int .u8 (n8 (f i))):=by
 rw [qc5]
 simp [h]
def acw (f : Nat→UInt8) (i : Nat) : Nat→UInt64
 | 0=>0
 | k + 1=>acw f i k ||| (f (8 * i + k)).toUInt64 * u64 (2 ^ (8 * k))
theorem bcell (f : Nat→UInt8) (w : World) (o1 o2 : Obj) (T : TypeId) (l : Nat × Array Obj) {i : Nat} (h : i < 32) :
  (grw (((w.alloc (.cells (qab f) T)).alloc o1).alloc o2) l).cell? ⟨w.heap.size,i,none⟩ = some (.int .u8 (n8 (f i))):=by
 rw [qhp]
 ·have h1 : ((w.alloc (.cells (qab f) T))).cell? ⟨w.heap.size,i,none⟩ = some (.int .u8 (n8 (f i))):=by
   rw [World.cell?_alloc_at _ _ _ _ rfl]
   exact qbp f h
  exact Ext.cell (qaa _ _) (Ext.cell (qaa _ _) h1)
 ·simp;omega
theorem acw0 (f : Nat→UInt8) (k : Nat) : acw f 0 (k + 1) = acw f 0 k ||| (f k).toUInt64 * u64 (2 ^ (8 * k)):=by
 show acw f 0 k ||| (f (8 * 0 + k)).toUInt64 * u64 (2 ^ (8 * k)) = _
 rw [Nat.mul_zero,Nat.zero_add]
def bsum (f : Nat→UInt8) : Nat→Nat
 | 0=>0
 | n + 1=>bsum f n + 2 ^ (8 * n) * (f n).toNat
theorem qeu (f : Nat→UInt8) : ∀ n,bsum f n < 2 ^ (8 * n)
 | 0=>by simp [bsum]
 | n + 1=>by
  have h:=qeu f n
  have h2:=(f n).toNat_lt
  have h3 : 2 ^ (8 * n) * (f n).toNat ≤ 2 ^ (8 * n) * 255:=Nat.mul_le_mul_left _ (by omega)
  simp only [bsum]
  rw [show 8 * (n + 1) = 8 * n + 8 from by omega,Nat.pow_add]
  omega
theorem qev (f : Nat→UInt8) (m : Nat) : ∀ n,bsum f (m + n) = bsum f m + 2 ^ (8 * m) * bsum (fun j=>f (m + j)) n
 | 0=>by simp [bsum]
 | n + 1=>by
  have ih:=qev f m n
  show bsum f (m + n) + 2 ^ (8 * (m + n)) * (f (m + n)).toNat = _
  rw [ih]
  simp only [bsum]
  rw [Nat.mul_add (2 ^ (8 * m)),← Nat.mul_assoc (2 ^ (8 * m)),← Nat.pow_add,show 8 * m + 8 * n = 8 * (m + n) from by omega]
  omega
theorem u64_pow {k : Nat} (h : k < 8) : (u64 (2 ^ (8 * k))).toNat = 2 ^ (8 * k):=by
 rcases (by omega : k = 0 ∨ k = 1 ∨ k = 2 ∨ k = 3 ∨ k = 4 ∨ k = 5 ∨ k = 6 ∨ k = 7) with rfl | rfl | rfl | rfl | rfl | rfl | rfl | rfl <;> rfl
theorem qen (f : Nat→UInt8) (i : Nat) : ∀ k,k ≤ 8→(acw f i k).toNat = bsum (fun j=>f (8 * i + j)) k
 | 0,_=>rfl
 | k + 1,h=>by
  have ih:=qen f i k (by omega)
  have hb:=qeu (fun j=>f (8 * i + j)) k
  have h2:=(f (8 * i + k)).toNat_lt
  simp only [acw,bsum]
  rw [UInt64.toNat_or,UInt64.toNat_mul,u64_pow (by omega),ih,UInt8.toNat_toUInt64]
  have h4 : (f (8 * i + k)).toNat * 2 ^ (8 * k) < 2 ^ 64:=by
   have : 2 ^ (8 * k) ≤ 2 ^ 56:=Nat.pow_le_pow_right (by decide) (by omega)
   have : (f (8 * i + k)).toNat * 2 ^ (8 * k) ≤ 255 * 2 ^ 56:=Nat.mul_le_mul (by omega) this
   omega
  rw [Nat.mod_eq_of_lt h4,Nat.mul_comm _ (2 ^ (8 * k)),Nat.or_comm,← Nat.two_pow_add_eq_or_of_lt hb]
  omega
def wd (f : Nat→UInt8) (i : Nat) : UInt64:=acw f i 8
theorem wd_val (f : Nat→UInt8) : val4 (wd f 0) (wd f 1) (wd f 2) (wd f 3) = bsum f 32:=by
 have h1:=qev f 8 24
 have h2:=qev (fun j=>f (8 + j)) 8 16
 have h3:=qev (fun j=>f (8 + (8 + j))) 8 8
 unfold val4 wd
 rw [qen _ _ 8 (by decide),qen _ _ 8 (by decide),qen _ _ 8 (by decide),qen _ _ 8 (by decide)]
 simp only [Nat.mul_zero,Nat.zero_add,Nat.mul_one,Nat.reduceMul]
 simp only [← Nat.add_assoc,Nat.reduceAdd,Nat.reduceMul,Nat.reducePow] at h1 h2 h3
 rw [h1,h2,h3]
end Go.Cv
namespace Go.Proofs.YtgeihelkkhjjaaaGreatDoor
open Go.RowKit Go.Cv

theorem in_any (f : Nat→UInt8) (w : World) :
  Calls Tryz.prog 84 #[.agg (qab f)] w fun e w'=>e = .returned (el (wd f 0) (wd f 1) (wd f 2) (wd f 3))∧Ext w w':=by
 go_enter Tryz.func84,Tryz.ntmps84
 go_wp2
 go_loopw [6] (fun i wr=>∃ (k : Nat) (ws : Nat→UInt64) (l : Nat × Array Obj),k ≤ 4∧i = .int .i64 k∧wr = grw (((w.alloc (.cells (qab f) 22)).alloc (.cells (w4 0 0 0 0) 101)).alloc (.cells (w4 (ws 0) (ws 1) (ws 2) (ws 3)) 101)) l∧(∀ j,j < k→ws j = wd f j)∧(∀ j,k ≤ j→ws j = 0)) (fun i _=>4 - (intOf i).toNat)
 case atStart=>exact ⟨0,fun _=>0,_,by omega,rfl,qd1 _,fun _ h=>absurd h (by omega),fun _ _=>rfl⟩
 case round =>
  obtain ⟨i,ws,l,hk,rfl,rfl,hv,hz⟩:=hrel
  have HV:=Lib.hid hv
  have HZ:=Lib.hid hz
  clear hv hz
  rcases (by omega : i = 0 ∨ i = 1 ∨ i = 2 ∨ i = 3 ∨ i = 4) with rfl | rfl | rfl | rfl | rfl
  ·go_wp2
   go_loopw [9] (fun kk wr=>∃ (k : Nat) (l : Nat × Array Obj),k ≤ 8∧kk = .int .i64 k∧wr = grw (((w.alloc (.cells (qab f) 22)).alloc (.cells (w4 0 0 0 0) 101)).alloc (.cells (w4 (acw f 0 k) (ws 1) (ws 2) (ws 3)) 101)) l) (fun kk _=>8 - (intOf kk).toNat)
   case atStart=>exact ⟨0,_,by omega,rfl,by rw [show acw f 0 0 = 0 from rfl,← HZ.out 0 (Nat.le_refl _)]⟩
   case round =>
    obtain ⟨k,l,hk,rfl,rfl⟩:=hrel
    by_cases hlt : k < 8
    ·go_wp2_with fail
     have hb : ∀ l,(grw (((w.alloc (.cells (qab f) 22)).alloc (.cells (w4 0 0 0 0) 101)).alloc (.cells (w4 (acw f 0 k) (ws 1) (ws 2) (ws 3)) 101)) l).cell? ⟨w.heap.size,0 + k,none⟩ = some (.int .u8 (n8 (f (0 + k)))):=fun l=>bcell f w _ _ _ l (by omega)
     have hd : ∀ l,(grw (((w.alloc (.cells (qab f) 22)).alloc (.cells (w4 0 0 0 0) 101)).alloc (.cells (w4 (acw f 0 k) (ws 1) (ws 2) (ws 3)) 101)) l).drew = grw (((w.alloc (.cells (qab f) 22)).alloc (.cells (w4 0 0 0 0) 101)).alloc (.cells (w4 (acw f 0 k) (ws 1) (ws 2) (ws 3)) 101)) (l.1 + 1,l.2):=fun l=>rfl
     simp only [Nat.zero_add] at hb
     go_region
     all_goals
      go_wp2
      refine ⟨?_,by simp [intOf];omega⟩
      exact ⟨k + 1,(l.1 + 1,l.2),by omega,by go_num,by rw [acw0]⟩
    ·have hk8 : k = 8:=by omega
     subst hk8
     go_wp2
     refine ⟨?_,by simp [intOf]⟩
     refine ⟨1,upd ws 0 (wd f 0),_,by omega,rfl,rfl,fun j h=>?_,fun j h=>?_⟩
     ·by_cases hj : j = 0
      ·subst hj;exact if_pos rfl
      ·rw [show upd ws 0 (wd f 0) j = ws j from if_neg hj];exact HV.out j (by omega)
     ·rw [show upd ws 0 (wd f 0) j = ws j from if_neg (by omega)];exact HZ.out j (by omega)
  ·go_wp2
   go_loopw [9] (fun kk wr=>∃ (k : Nat) (l : Nat × Array Obj),k ≤ 8∧kk = .int .i64 k∧wr = grw (((w.alloc (.cells (qab f) 22)).alloc (.cells (w4 0 0 0 0) 101)).alloc (.cells (w4 (ws 0) (acw f 1 k) (ws 2) (ws 3)) 101)) l) (fun kk _=>8 - (intOf kk).toNat)
   case atStart=>exact ⟨0,_,by omega,rfl,by rw [show acw f 1 0 = 0 from rfl,← HZ.out 1 (Nat.le_refl _)]⟩
   case round =>
    obtain ⟨k,l,hk,rfl,rfl⟩:=hrel
    by_cases hlt : k < 8
    ·go_wp2_with fail
     have hb : ∀ l,(grw (((w.alloc (.cells (qab f) 22)).alloc (.cells (w4 0 0 0 0) 101)).alloc (.cells (w4 (ws 0) (acw f 1 k) (ws 2) (ws 3)) 101)) l).cell? ⟨w.heap.size,8 + k,none⟩ = some (.int .u8 (n8 (f (8 + k)))):=fun l=>bcell f w _ _ _ l (by omega)
     have hd : ∀ l,(grw (((w.alloc (.cells (qab f) 22)).alloc (.cells (w4 0 0 0 0) 101)).alloc (.cells (w4 (ws 0) (acw f 1 k) (ws 2) (ws 3)) 101)) l).drew = grw (((w.alloc (.cells (qab f) 22)).alloc (.cells (w4 0 0 0 0) 101)).alloc (.cells (w4 (ws 0) (acw f 1 k) (ws 2) (ws 3)) 101)) (l.1 + 1,l.2):=fun l=>rfl
     skip
     go_region
     all_goals
      go_wp2
      refine ⟨?_,by simp [intOf];omega⟩
      exact ⟨k + 1,(l.1 + 1,l.2),by omega,by go_num,rfl⟩
    ·have hk8 : k = 8:=by omega
     subst hk8
     go_wp2
     refine ⟨?_,by simp [intOf]⟩
     refine ⟨2,upd ws 1 (wd f 1),_,by omega,rfl,rfl,fun j h=>?_,fun j h=>?_⟩
     ·by_cases hj : j = 1
      ·subst hj;exact if_pos rfl
      ·rw [show upd ws 1 (wd f 1) j = ws j from if_neg hj];exact HV.out j (by omega)
     ·rw [show upd ws 1 (wd f 1) j = ws j from if_neg (by omega)];exact HZ.out j (by omega)
  ·go_wp2
   go_loopw [9] (fun kk wr=>∃ (k : Nat) (l : Nat × Array Obj),k ≤ 8∧kk = .int .i64 k∧wr = grw (((w.alloc (.cells (qab f) 22)).alloc (.cells (w4 0 0 0 0) 101)).alloc (.cells (w4 (ws 0) (ws 1) (acw f 2 k) (ws 3)) 101)) l) (fun kk _=>8 - (intOf kk).toNat)
   case atStart=>exact ⟨0,_,by omega,rfl,by rw [show acw f 2 0 = 0 from rfl,← HZ.out 2 (Nat.le_refl _)]⟩
   case round =>
    obtain ⟨k,l,hk,rfl,rfl⟩:=hrel
    by_cases hlt : k < 8
    ·go_wp2_with fail
     have hb : ∀ l,(grw (((w.alloc (.cells (qab f) 22)).alloc (.cells (w4 0 0 0 0) 101)).alloc (.cells (w4 (ws 0) (ws 1) (acw f 2 k) (ws 3)) 101)) l).cell? ⟨w.heap.size,16 + k,none⟩ = some (.int .u8 (n8 (f (16 + k)))):=fun l=>bcell f w _ _ _ l (by omega)
     have hd : ∀ l,(grw (((w.alloc (.cells (qab f) 22)).alloc (.cells (w4 0 0 0 0) 101)).alloc (.cells (w4 (ws 0) (ws 1) (acw f 2 k) (ws 3)) 101)) l).drew = grw (((w.alloc (.cells (qab f) 22)).alloc (.cells (w4 0 0 0 0) 101)).alloc (.cells (w4 (ws 0) (ws 1) (acw f 2 k) (ws 3)) 101)) (l.1 + 1,l.2):=fun l=>rfl
     skip
     go_region
     all_goals
      go_wp2
      refine ⟨?_,by simp [intOf];omega⟩
      exact ⟨k + 1,(l.1 + 1,l.2),by omega,by go_num,rfl⟩
    ·have hk8 : k = 8:=by omega
     subst hk8
     go_wp2
     refine ⟨?_,by simp [intOf]⟩
     refine ⟨3,upd ws 2 (wd f 2),_,by omega,rfl,rfl,fun j h=>?_,fun j h=>?_⟩
     ·by_cases hj : j = 2
      ·subst hj;exact if_pos rfl
      ·rw [show upd ws 2 (wd f 2) j = ws j from if_neg hj];exact HV.out j (by omega)
     ·rw [show upd ws 2 (wd f 2) j = ws j from if_neg (by omega)];exact HZ.out j (by omega)
  ·go_wp2
   go_loopw [9] (fun kk wr=>∃ (k : Nat) (l : Nat × Array Obj),k ≤ 8∧kk = .int .i64 k∧wr = grw (((w.alloc (.cells (qab f) 22)).alloc (.cells (w4 0 0 0 0) 101)).alloc (.cells (w4 (ws 0) (ws 1) (ws 2) (acw f 3 k)) 101)) l) (fun kk _=>8 - (intOf kk).toNat)
   case atStart=>exact ⟨0,_,by omega,rfl,by rw [show acw f 3 0 = 0 from rfl,← HZ.out 3 (Nat.le_refl _)]⟩
   case round =>
    obtain ⟨k,l,hk,rfl,rfl⟩:=hrel
    by_cases hlt : k < 8
    ·go_wp2_with fail
     have hb : ∀ l,(grw (((w.alloc (.cells (qab f) 22)).alloc (.cells (w4 0 0 0 0) 101)).alloc (.cells (w4 (ws 0) (ws 1) (ws 2) (acw f 3 k)) 101)) l).cell? ⟨w.heap.size,24 + k,none⟩ = some (.int .u8 (n8 (f (24 + k)))):=fun l=>bcell f w _ _ _ l (by omega)
     have hd : ∀ l,(grw (((w.alloc (.cells (qab f) 22)).alloc (.cells (w4 0 0 0 0) 101)).alloc (.cells (w4 (ws 0) (ws 1) (ws 2) (acw f 3 k)) 101)) l).drew = grw (((w.alloc (.cells (qab f) 22)).alloc (.cells (w4 0 0 0 0) 101)).alloc (.cells (w4 (ws 0) (ws 1) (ws 2) (acw f 3 k)) 101)) (l.1 + 1,l.2):=fun l=>rfl
     skip
     go_region
     all_goals
      go_wp2
      refine ⟨?_,by simp [intOf];omega⟩
      exact ⟨k + 1,(l.1 + 1,l.2),by omega,by go_num,rfl⟩
    ·have hk8 : k = 8:=by omega
     subst hk8
     go_wp2
     refine ⟨?_,by simp [intOf]⟩
     refine ⟨4,upd ws 3 (wd f 3),_,by omega,rfl,rfl,fun j h=>?_,fun j h=>?_⟩
     ·by_cases hj : j = 3
      ·subst hj;exact if_pos rfl
      ·rw [show upd ws 3 (wd f 3) j = ws j from if_neg hj];exact HV.out j (by omega)
     ·rw [show upd ws 3 (wd f 3) j = ws j from if_neg (by omega)];exact HZ.out j (by omega)
  ·go_wp2
   refine bodyPost_ret_by (by simp [results,Tryz.results84,go_sem];rfl) rfl ?_
   rw [HV.out 0 (by decide),HV.out 1 (by decide),HV.out 2 (by decide),HV.out 3 (by decide)]
   exact ⟨rfl,(((qaa _ _).trans (qaa _ _)).trans (qaa _ _)).trans (qad _ _)⟩
end Go.Proofs.YtgeihelkkhjjaaaGreatDoor
end
section
namespace Go.Cv
open Go.RowKit
def nb (n : Nat) (j : Nat) : UInt8:=UInt8.ofNat (n / 2 ^ (8 * j))
theorem qcg {w : World} (o : Obj) (n : Nat) (c : Array Value) (hn : n < w.heap.size) : (w.alloc o).setRow n c = (w.setRow n c).alloc o:=by
 unfold World.setRow World.alloc
 congr 1
 apply Array.ext_getElem?
 intro k
 simp only [Array.getElem?_modify,Array.getElem?_push,Array.size_modify]
 by_cases hk : k = w.heap.size
 ·subst hk
  simp [Nat.ne_of_lt hn]
 ·simp [hk]
@[go_sem ↓ high] theorem qij (w : World) (x : Nat × Array Obj) (o : Obj) (n i : Nat) (hn : n < w.heap.size) : ((grw w x).alloc o).cell? ⟨n,i,none⟩ = w.cell? ⟨n,i,none⟩:=by
 rw [World.cell?_alloc_past _ _ _ (qfw x hn),qhp x w n i hn]
@[go_sem ↓ high] theorem qgp (w : World) (x : Nat × Array Obj) (o : Obj) (n i : Nat) (hn : n < w.heap.size) : ((grw w x).alloc o).frozen? ⟨n,i,none⟩ = w.frozen? ⟨n,i,none⟩:=by
 rw [World.frozen?_alloc_past _ _ _ (qfw x hn),qg3 x w n i hn]
@[go_sem ↓ high] theorem qfr (w : World) (x : Nat × Array Obj) (o : Obj) (n i : Nat) (v : Value) (hn : n < w.heap.size) : ((grw w x).alloc o).setCell ⟨n,i,none⟩ v = (grw (w.setCell ⟨n,i,none⟩ v) x).alloc o:=by
 rw [World.setCell_alloc_past _ _ _ _ (qfw x hn),qf5 x w n i v hn]
@[go_sem ↓ high] theorem cell_grw_al2 (w : World) (x : Nat × Array Obj) (o p : Obj) (n i : Nat) (hn : n < w.heap.size) : (((grw w x).alloc o).alloc p).cell? ⟨n,i,none⟩ = w.cell? ⟨n,i,none⟩:=by
 rw [World.cell?_alloc_past _ _ _ (Nat.lt_succ_of_lt (qfw x hn) |> fun h=>by simpa using h),qij w x o n i hn]
@[go_sem ↓ high] theorem frozen_grw_al2 (w : World) (x : Nat × Array Obj) (o p : Obj) (n i : Nat) (hn : n < w.heap.size) : (((grw w x).alloc o).alloc p).frozen? ⟨n,i,none⟩ = w.frozen? ⟨n,i,none⟩:=by
 rw [World.frozen?_alloc_past _ _ _ (Nat.lt_succ_of_lt (qfw x hn) |> fun h=>by simpa using h),qgp w x o n i hn]
@[go_sem ↓ high] theorem qpk (w : World) (x : Nat × Array Obj) (o p : Obj) (n i : Nat) (v : Value) (hn : n < w.heap.size) : (((grw w x).alloc o).alloc p).setCell ⟨n,i,none⟩ v = ((grw (w.setCell ⟨n,i,none⟩ v) x).alloc o).alloc p:=by
 rw [World.setCell_alloc_past _ _ _ _ (Nat.lt_succ_of_lt (qfw x hn) |> fun h=>by simpa using h),qfr w x o n i v hn]
def wsel (a b c d : UInt64) (i : Nat) : UInt64:=if i = 0 then a else if i = 1 then b else if i = 2 then c else d
def wcl (a b c d : UInt64) : Array Value:=w4 a b c d
theorem qmo (a b c d : UInt64) {i : Nat} (h : i < 4) : (wcl a b c d)[i]? = some (.int .u64 (n64 (wsel a b c d i))):=by
 rcases (by omega : i = 0 ∨ i = 1 ∨ i = 2 ∨ i = 3) with rfl | rfl | rfl | rfl <;> rfl
theorem qq3 (w : World) (x : Nat × Array Obj) : (grw w x).heap.size = w.heap.size + x.2.size:=Array.size_append ..
def qco (a b c d : UInt64) (i : Nat) : UInt8:=u8 (n64 (wsel a b c d (i / 8)) / 2 ^ (8 * (i % 8)))
def updb (g : Nat→UInt8) (i : Nat) (v : UInt8) : Nat→UInt8:=fun j=>if j = i then v else g j
theorem qem (g : Nat→UInt8) (i : Nat) (v : UInt8) : (qab g).setIfInBounds i (.int .u8 (n8 v)) = qab (updb g i v):=by
 apply Array.ext_getElem?
 intro j
 rw [Array.getElem?_setIfInBounds]
 by_cases hj : j < 32
 ·rw [qbp _ hj]
  by_cases hij : i = j
  ·subst hij
   rw [if_pos rfl,qam,if_pos hj,qbp _ hj,show updb g i v i = v from if_pos rfl]
  ·rw [if_neg hij,qbp _ hj,show updb g i v j = g j from if_neg (fun h=>hij h.symm)]
 ·rw [Array.getElem?_eq_none (xs:=qab (updb g i v)) (by rw [qam];omega)]
  by_cases hij : i = j
  ·subst hij
   rw [if_pos rfl,qam,if_neg hj]
  ·rw [if_neg hij,Array.getElem?_eq_none (by rw [qam];omega)]
theorem qga : qab (fun _=>0) = #[.int .u8 0,.int .u8 0,.int .u8 0,.int .u8 0,.int .u8 0,.int .u8 0,.int .u8 0,.int .u8 0,.int .u8 0,.int .u8 0,.int .u8 0,.int .u8 0,.int .u8 0,.int .u8 0,.int .u8 0,.int .u8 0,.int .u8 0,.int .u8 0,.int .u8 0,.int .u8 0,.int .u8 0,.int .u8 0,.int .u8 0,.int .u8 0,.int .u8 0,.int .u8 0,.int .u8 0,.int .u8 0,.int .u8 0,.int .u8 0,.int .u8 0,.int .u8 0]:=by
 rw [qc5]
 rfl
theorem qd8 {P : Program} {ops : Array Oper} {rest : List Oper} {o : Oper} {a : Act} {w : World} {Q : Exit→Act→World→Prop} (hgd : o.guard = none) (ty : TypeId) (x y : Operand) (ho : o.op = .store ty x y)
  (g : Nat) (cells : Array Value) (hx : a.eval x = .pointer (some ⟨g,0,none⟩)) (hy : a.eval y = .agg cells)
  (t : TypeId) (old : Array Value) (hg : w.heap[g]? = some (.cells old t (0,0))) (hi : (P.info? ty).map (·.size) = some cells.size)
  (hold : old.size = cells.size) (h1 : cells.all (·.oneCell') = true)
  (h : wpList P ops Q rest (a.put o.dst undef) (w.setRow g cells)) : wpList P ops Q (o :: rest) a w :=
 wpList_plain hgd fun _ hK=>wp_store_row ty x y ho g cells hx hy t old hg hi hold h1 (hK _ _ h)
theorem qcu (g : Nat→UInt8) : (qab g).all (·.oneCell') = true:=by
 rw [Array.all_eq_true_iff_forall_mem]
 intro v hv
 obtain ⟨i,hi,rfl⟩:=Array.mem_iff_getElem.1 hv
 have h32 : i < 32:=by simpa using hi
 have:=qbp g h32
 rw [Array.getElem?_eq_getElem hi] at this
 rw [Option.some.inj this]
 rfl
theorem qgn (w : World) (T B : TypeId) (c c0 : Array Value) (x : Nat × Array Obj) (o1 o2 : Obj) :
  ((((grw ((w.alloc (.cells c T)).alloc (.cells c0 B)) x).alloc o1).alloc o2)).heap[w.heap.size + 1]? = some (.cells c0 B):=by
 have e : Ext ((w.alloc (.cells c T)).alloc (.cells c0 B)) (((grw ((w.alloc (.cells c T)).alloc (.cells c0 B)) x).alloc o1).alloc o2):=((qad _ _).trans (qaa _ _)).trans (qaa _ _)
 rw [e.block (w.heap.size + 1) (by simp)]
 have:=heap_alloc_last (w.alloc (.cells c T)) (.cells c0 B)
 simpa using this
theorem qhz (w : World) (T B : TypeId) (c c0 c1 : Array Value) (x : Nat × Array Obj) (o1 o2 : Obj) :
  ((((grw ((w.alloc (.cells c T)).alloc (.cells c0 B)) x).alloc o1).alloc o2)).setRow (w.heap.size + 1) c1 = (((grw ((w.alloc (.cells c T)).alloc (.cells c1 B)) x).alloc o1).alloc o2):=by
 rw [qcg _ _ _ (by have:=qjy ((w.alloc (.cells c T)).alloc (.cells c0 B)) x;simp at *;omega),qcg _ _ _ (by have:=qjy ((w.alloc (.cells c T)).alloc (.cells c0 B)) x;simp at *;omega),qfb _ _ _ _ (by simp)]
 have:=World.setRow_alloc_new (w.alloc (.cells c T)) c0 c1 B
 simp at this
 rw [this]
theorem qbm {f g : Nat→UInt8} (h : ∀ i,i < 32→f i = g i) : qab f = qab g:=by
 apply Array.ext_getElem?
 intro i
 by_cases hi : i < 32
 ·rw [qbp f hi,qbp g hi,h i hi]
 ·rw [Array.getElem?_eq_none (by rw [qam];omega),Array.getElem?_eq_none (by rw [qam];omega)]
theorem and_mask (x : UInt64) : (x &&& 9223372036854775807).toNat = x.toNat % 9223372036854775808:=by
 rw [UInt64.toNat_and]
 exact Nat.and_two_pow_sub_one_eq_mod x.toNat 63
theorem shr_63 (x : UInt64) : (x >>> 63).toNat = x.toNat / 9223372036854775808:=qgi x 63 (by decide)
theorem qhw (a b c d : UInt64) : val4 a b c (d &&& 9223372036854775807) = val4 a b c d % 2 ^ 255:=by
 have:=a.toNat_lt;have:=b.toNat_lt;have:=c.toNat_lt;have:=d.toNat_lt
 unfold val4
 rw [and_mask]
 omega
theorem qmp (a b c d : UInt64) : (d >>> 63).toNat = val4 a b c d / 2 ^ 255:=by
 have:=a.toNat_lt;have:=b.toNat_lt;have:=c.toNat_lt;have:=d.toNat_lt
 unfold val4
 rw [shr_63]
 omega
theorem top_19 (a b c d : UInt64) : ((19 : UInt64) * (d >>> 63)).toNat = 19 * (val4 a b c d / 2 ^ 255):=by
 have h:=qmp a b c d
 have h2:=qdf a b c d
 rw [UInt64.toNat_mul,h,show (19 : UInt64).toNat = 19 from rfl]
 omega
theorem out_num {V V1 V2 S k1 k2 k3 : Nat} (h : V < 2 ^ 256) (h1 : V1 < 2 ^ 256) (h2 : V2 < 2 ^ 256) (hS : S < 2 ^ 256)
  (hp : V1 + 2 ^ 256 * k1 = V % 2 ^ 255 + 19 * (V / 2 ^ 255)) (hq : V2 + 2 ^ 256 * k2 = V1 % 2 ^ 255 + 19 * (V1 / 2 ^ 255)) (hs : S + 2 ^ 256 * k3 = V2 + 19) :
  (S / 2 ^ 255 = 1→S % 2 ^ 255 = V % (2 ^ 255 - 19))∧(S / 2 ^ 255 ≠ 1→V2 = V % (2 ^ 255 - 19)):=by
 have e1 : V / 2 ^ 255 = 0 ∨ V / 2 ^ 255 = 1:=by omega
 have e2 : V1 / 2 ^ 255 = 0 ∨ V1 / 2 ^ 255 = 1:=by omega
 have e3 : S / 2 ^ 255 = 0 ∨ S / 2 ^ 255 = 1:=by omega
 have f1:=Nat.div_add_mod V (2 ^ 255)
 have f2:=Nat.div_add_mod V1 (2 ^ 255)
 have f3:=Nat.div_add_mod S (2 ^ 255)
 have g1:=Nat.mod_lt V (show 2 ^ 255 > 0 by decide)
 have g2:=Nat.mod_lt V1 (show 2 ^ 255 > 0 by decide)
 have g3:=Nat.mod_lt S (show 2 ^ 255 > 0 by decide)
 have k1z : k1 = 0:=by omega
 subst k1z
 have k2z : k2 = 0:=by omega
 subst k2z
 have k3z : k3 = 0:=by omega
 subst k3z
 constructor
 ·intro hh
  rw [hh] at f3
  generalize V / 2 ^ 255 = q at *
  generalize V1 / 2 ^ 255 = q1 at *
  rcases e1 with rfl | rfl <;> rcases e2 with rfl | rfl <;> omega
 ·intro hh
  rcases e3 with e3 | e3
  ·rw [e3] at f3
   generalize V / 2 ^ 255 = q at *
   generalize V1 / 2 ^ 255 = q1 at *
   rcases e1 with rfl | rfl <;> rcases e2 with rfl | rfl <;> omega
  ·exact absurd e3 hh
theorem u8_nat (n : Nat) : u8 (n : Int) = UInt8.ofNat n:=by
 unfold u8
 rw [BitVec.ofInt_natCast]
 rfl
theorem qi9 (a b c d : UInt64) {i : Nat} (hi : i < 32) : qco a b c d i = nb (val4 a b c d) i:=by
 have ha:=a.toNat_lt;have hb:=b.toNat_lt;have hc:=c.toNat_lt;have hd:=d.toNat_lt
 have e : n64 (wsel a b c d (i / 8)) / 2 ^ (8 * (i % 8)) = ((((wsel a b c d (i / 8)).toNat / 2 ^ (8 * (i % 8)) : Nat)) : Int):=by
  unfold n64
  rw [Int.natCast_ediv,Int.natCast_pow]
  rfl
 unfold qco nb
 rw [e,u8_nat]
 apply UInt8.toNat_inj.1
 rw [UInt8.toNat_ofNat',UInt8.toNat_ofNat']
 have key : ∀ (j k : Nat),j < 4→k < 8→(wsel a b c d j).toNat / 2 ^ (8 * k) % 2 ^ 8 = val4 a b c d / 2 ^ (8 * (8 * j + k)) % 2 ^ 8:=by
  intro j k hj hk
  rw [show 8 * (8 * j + k) = 64 * j + 8 * k from by omega,Nat.pow_add,← Nat.div_div_eq_div_mul]
  have h1 : val4 a b c d / 2 ^ (64 * j) % 2 ^ 64 = (wsel a b c d j).toNat:=by
   unfold val4 wsel
   rcases (by omega : j = 0 ∨ j = 1 ∨ j = 2 ∨ j = 3) with rfl | rfl | rfl | rfl <;> simp <;> omega
  rw [← h1]
  generalize val4 a b c d / 2 ^ (64 * j) = X
  rcases (by omega : k = 0 ∨ k = 1 ∨ k = 2 ∨ k = 3 ∨ k = 4 ∨ k = 5 ∨ k = 6 ∨ k = 7) with rfl | rfl | rfl | rfl | rfl | rfl | rfl | rfl <;> omega
 have:=key (i / 8) (i % 8) (by omega) (by omega)
 rw [show 8 * (i / 8) + i % 8 = i from by omega] at this
 exact this
theorem qp5 {a b c d p0 p1 p2 p3 q0 q1 q2 q3 s0 s1 s2 s3 : UInt64} {k1 k2 k3 : Nat}
  (hp : val4 p0 p1 p2 p3 + 2 ^ 256 * k1 = val4 a b c (d &&& 9223372036854775807) + ((19 : UInt64) * (d >>> 63)).toNat)
  (hq : val4 q0 q1 q2 q3 + 2 ^ 256 * k2 = val4 p0 p1 p2 (p3 &&& 9223372036854775807) + ((19 : UInt64) * (p3 >>> 63)).toNat)
  (hs : val4 s0 s1 s2 s3 + 2 ^ 256 * k3 = val4 q0 q1 q2 q3 + 19) :
  ((s3 >>> 63 == 1) = true→val4 s0 s1 s2 (s3 &&& 9223372036854775807) = val4 a b c d % (2 ^ 255 - 19)) ∧
  ((s3 >>> 63 == 1) = false→val4 q0 q1 q2 q3 = val4 a b c d % (2 ^ 255 - 19)):=by
 rw [qhw,top_19 a b c d] at hp
 rw [qhw,top_19 p0 p1 p2 p3] at hq
 have h:=out_num (qdf a b c d) (qdf p0 p1 p2 p3) (qdf q0 q1 q2 q3) (qdf s0 s1 s2 s3) hp hq hs
 have ht:=qmp s0 s1 s2 s3
 constructor
 ·intro h1
  rw [qhw]
  refine h.1 ?_
  rw [← ht,eq_of_beq h1]
  rfl
 ·intro h1
  refine h.2 ?_
  rw [← ht]
  intro h2
  have : s3 >>> 63 = 1:=UInt64.toNat_inj.1 h2
  rw [this] at h1
  exact absurd h1 (by decide)
end Go.Cv
namespace Go.Proofs.YtgeihelkkhjjaaaGreatDoor
open Go.RowKit Go.Cv

theorem u22 : Tryz.prog.underlying 22 = some (.array 32 5):=by kernel_rfl
theorem i22 : (Tryz.prog.info? 22).map (·.size) = some 32:=by kernel_rfl
theorem qgx (a b c d : UInt64) (w : World) :
  Calls Tryz.prog 91 #[el a b c d] w fun e w'=>e = .returned (.agg (qab (nb (val4 a b c d % (2 ^ 255 - 19)))))∧Ext w w':=by
 go_enter Tryz.func91,Tryz.ntmps91
 go_wp2
 refine wp_loop_rounds 3 ?_
 rw [rounds_succ]
 go_wp2_with (go_at_call 102;with_reducible refine (qho _ _ _ _ _ _).mono ?_;rintro e w' ⟨p0,p1,p2,p3,kp,rfl,hp,hx⟩;obtain ⟨lp,rfl⟩:=qah hx;clear hx)
 replace hp:=Lib.hid hp
 rw [rounds_succ]
 go_wp2_with (go_at_call 102;with_reducible refine (qho _ _ _ _ _ _).mono ?_;rintro e w' ⟨q0,q1,q2,q3,kq,rfl,hq,hx⟩;obtain ⟨lq,rfl⟩:=qah hx;clear hx)
 replace hq:=Lib.hid hq
 rw [rounds_succ]
 go_wp2_with (go_at_call 102;with_reducible refine (more_19 _ _ _ _ _).mono ?_;rintro e w' ⟨s0,s1,s2,s3,k,rfl,hs,hx⟩;obtain ⟨l',rfl⟩:=qah hx;clear hx)
 all_goals
  replace hs:=Lib.hid hs
  rw [← qga]
  obtain ⟨nt,hnt⟩ : ∃ n,n = w.heap.size + 2 + (lp.2 ++ (lq.2 ++ l'.2)).size:=⟨_,rfl⟩
  have hsz : ∀ c : Array Value,(grw ((w.alloc (.cells c 101)).alloc (.cells (qab fun _=>0) 22)) (l'.1,lp.2 ++ (lq.2 ++ l'.2))).heap.size = nt:=by
   intro c
   rw [hnt,qq3]
   simp
  clear hnt
  simp only [hsz]
 ·rename_i hc _ _
  go_loopw [39] (fun i wr=>∃ (k : Nat) (g : Nat→UInt8),k ≤ 32∧i = .int .i64 k∧wr = ((grw ((w.alloc (.cells (wcl s0 s1 s2 (s3 &&& 9223372036854775807)) 101)).alloc (.cells (qab (fun _=>0)) 22)) (l'.1,lp.2 ++ (lq.2 ++ l'.2))).alloc (.cells (w4 s0 s1 s2 s3) 101)).alloc (.cells (qab g) 22)∧∀ j,j < k→g j = qco s0 s1 s2 (s3 &&& 9223372036854775807) j) (fun i _=>32 - (intOf i).toNat)
  case atStart=>exact ⟨0,fun _=>0,by omega,rfl,rfl,fun _ h=>absurd h (by omega)⟩
  case round =>
   obtain ⟨i,g,hk,rfl,rfl,hg⟩:=hrel
   replace hg:=Lib.hid hg
   by_cases hlt : i < 32
   ·have hb : (wcl s0 s1 s2 (s3 &&& 9223372036854775807))[i / 8]? = some (.int .u64 (n64 (wsel s0 s1 s2 (s3 &&& 9223372036854775807) (i / 8)))):=qmo _ _ _ _ (by omega)
    have hi : i / 8 < 4:=by omega
    go_wp2
    refine ⟨⟨i + 1,updb g i (qco s0 s1 s2 (s3 &&& 9223372036854775807) i),by omega,by go_num,by rw [← qem];rfl,fun j hj=>?_⟩,by simp [intOf];omega⟩
    by_cases hji : j = i
    ·subst hji;exact if_pos rfl
    ·rw [show updb g i (qco s0 s1 s2 (s3 &&& 9223372036854775807) i) j = g j from if_neg hji];exact hg.out j (by omega)
   ·have hi : i = 32:=by omega
    subst hi
    rw [qbm hg.out]
    have hb1 : (((grw ((w.alloc (.cells (wcl s0 s1 s2 (s3 &&& 9223372036854775807)) 101)).alloc (.cells (qab (fun _=>0)) 22)) (l'.1,lp.2 ++ (lq.2 ++ l'.2))).alloc (.cells (w4 s0 s1 s2 s3) 101)).alloc (.cells (qab (qco s0 s1 s2 (s3 &&& 9223372036854775807))) 22)).heap[nt + 1]? = some (.cells (qab (qco s0 s1 s2 (s3 &&& 9223372036854775807))) 22):=by
     have h:=heap_alloc_last ((grw ((w.alloc (.cells (wcl s0 s1 s2 (s3 &&& 9223372036854775807)) 101)).alloc (.cells (qab (fun _=>0)) 22)) (l'.1,lp.2 ++ (lq.2 ++ l'.2))).alloc (.cells (w4 s0 s1 s2 s3) 101)) (.cells (qab (qco s0 s1 s2 (s3 &&& 9223372036854775807))) 22)
     rw [show ((grw ((w.alloc (.cells (wcl s0 s1 s2 (s3 &&& 9223372036854775807)) 101)).alloc (.cells (qab (fun _=>0)) 22)) (l'.1,lp.2 ++ (lq.2 ++ l'.2))).alloc (.cells (w4 s0 s1 s2 s3) 101)).heap.size = nt + 1 from by simp [hsz]] at h
     exact h
    have hb2:=qgn w 101 22 (wcl s0 s1 s2 (s3 &&& 9223372036854775807)) (qab (fun _=>0)) (l'.1,lp.2 ++ (lq.2 ++ l'.2)) (.cells (w4 s0 s1 s2 s3) 101) (.cells (qab (qco s0 s1 s2 (s3 &&& 9223372036854775807))) 22)
    have hb3:=qhz w 101 22 (wcl s0 s1 s2 (s3 &&& 9223372036854775807)) (qab (fun _=>0)) (qab (qco s0 s1 s2 (s3 &&& 9223372036854775807))) (l'.1,lp.2 ++ (lq.2 ++ l'.2)) (.cells (w4 s0 s1 s2 s3) 101) (.cells (qab (qco s0 s1 s2 (s3 &&& 9223372036854775807))) 22)
    have hb4:=qgn w 101 22 (wcl s0 s1 s2 (s3 &&& 9223372036854775807)) (qab (qco s0 s1 s2 (s3 &&& 9223372036854775807))) (l'.1,lp.2 ++ (lq.2 ++ l'.2)) (.cells (w4 s0 s1 s2 s3) 101) (.cells (qab (qco s0 s1 s2 (s3 &&& 9223372036854775807))) 22)
    go_upto_region 17 with fail
    go_step
    with_reducible refine wpList_load_row ?_ 22 (.tmp 6) ?_ (nt + 1) ?_ 22 (qab (qco s0 s1 s2 (s3 &&& 9223372036854775807))) (0,0) _ hb1 u22 ?_ (by rw [qam];exact i22) ?_
    ·rfl
    ·rfl
    ·rfl
    ·rfl
    with_reducible refine qd8 ?_ 22 (.tmp 2) (.tmp 54) ?_ (w.heap.size + 1) (qab (qco s0 s1 s2 (s3 &&& 9223372036854775807))) ?_ ?_ 22 (qab (fun _=>0)) hb2 (by rw [qam];exact i22) (by rw [qam,qam]) (qcu _) ?_
    ·rfl
    ·rfl
    ·rfl
    ·rfl
    rw [hb3]
    go_step
    go_step
    first | go_step | go_skip | go_back
    first | go_step | go_skip | go_back
    first | go_step | go_skip | go_back
    refine bodyPost_ret (results_cell_row (p:=2) (ty:=22) rfl _ _ (w.heap.size + 1) 22 (qab (qco s0 s1 s2 (s3 &&& 9223372036854775807))) (0,0) _ ?_ hb4 u22 rfl (by rw [qam];exact i22)) rfl ⟨?_,?_⟩
    ·rfl
    ·rw [qbm (fun i hi=>qi9 s0 s1 s2 (s3 &&& 9223372036854775807) hi),(qp5 hp.out hq.out hs.out).1 hc]
    ·exact ((((qaa _ _).trans (qaa _ _)).trans (qad _ _)).trans (qaa _ _)).trans (qaa _ _)
 ·rename_i hc _ _
  go_loopw [39] (fun i wr=>∃ (k : Nat) (g : Nat→UInt8),k ≤ 32∧i = .int .i64 k∧wr = ((grw ((w.alloc (.cells (wcl q0 q1 q2 q3) 101)).alloc (.cells (qab (fun _=>0)) 22)) (l'.1,lp.2 ++ (lq.2 ++ l'.2))).alloc (.cells (w4 s0 s1 s2 s3) 101)).alloc (.cells (qab g) 22)∧∀ j,j < k→g j = qco q0 q1 q2 q3 j) (fun i _=>32 - (intOf i).toNat)
  case atStart=>exact ⟨0,fun _=>0,by omega,rfl,rfl,fun _ h=>absurd h (by omega)⟩
  case round =>
   obtain ⟨i,g,hk,rfl,rfl,hg⟩:=hrel
   replace hg:=Lib.hid hg
   by_cases hlt : i < 32
   ·have hb : (wcl q0 q1 q2 q3)[i / 8]? = some (.int .u64 (n64 (wsel q0 q1 q2 q3 (i / 8)))):=qmo _ _ _ _ (by omega)
    have hi : i / 8 < 4:=by omega
    go_wp2
    refine ⟨⟨i + 1,updb g i (qco q0 q1 q2 q3 i),by omega,by go_num,by rw [← qem];rfl,fun j hj=>?_⟩,by simp [intOf];omega⟩
    by_cases hji : j = i
    ·subst hji;exact if_pos rfl
    ·rw [show updb g i (qco q0 q1 q2 q3 i) j = g j from if_neg hji];exact hg.out j (by omega)
   ·have hi : i = 32:=by omega
    subst hi
    rw [qbm hg.out]
    have hb1 : (((grw ((w.alloc (.cells (wcl q0 q1 q2 q3) 101)).alloc (.cells (qab (fun _=>0)) 22)) (l'.1,lp.2 ++ (lq.2 ++ l'.2))).alloc (.cells (w4 s0 s1 s2 s3) 101)).alloc (.cells (qab (qco q0 q1 q2 q3)) 22)).heap[nt + 1]? = some (.cells (qab (qco q0 q1 q2 q3)) 22):=by
     have h:=heap_alloc_last ((grw ((w.alloc (.cells (wcl q0 q1 q2 q3) 101)).alloc (.cells (qab (fun _=>0)) 22)) (l'.1,lp.2 ++ (lq.2 ++ l'.2))).alloc (.cells (w4 s0 s1 s2 s3) 101)) (.cells (qab (qco q0 q1 q2 q3)) 22)
     rw [show ((grw ((w.alloc (.cells (wcl q0 q1 q2 q3) 101)).alloc (.cells (qab (fun _=>0)) 22)) (l'.1,lp.2 ++ (lq.2 ++ l'.2))).alloc (.cells (w4 s0 s1 s2 s3) 101)).heap.size = nt + 1 from by simp [hsz]] at h
     exact h
    have hb2:=qgn w 101 22 (wcl q0 q1 q2 q3) (qab (fun _=>0)) (l'.1,lp.2 ++ (lq.2 ++ l'.2)) (.cells (w4 s0 s1 s2 s3) 101) (.cells (qab (qco q0 q1 q2 q3)) 22)
    have hb3:=qhz w 101 22 (wcl q0 q1 q2 q3) (qab (fun _=>0)) (qab (qco q0 q1 q2 q3)) (l'.1,lp.2 ++ (lq.2 ++ l'.2)) (.cells (w4 s0 s1 s2 s3) 101) (.cells (qab (qco q0 q1 q2 q3)) 22)
    have hb4:=qgn w 101 22 (wcl q0 q1 q2 q3) (qab (qco q0 q1 q2 q3)) (l'.1,lp.2 ++ (lq.2 ++ l'.2)) (.cells (w4 s0 s1 s2 s3) 101) (.cells (qab (qco q0 q1 q2 q3)) 22)
    go_upto_region 17 with fail
    go_step
    with_reducible refine wpList_load_row ?_ 22 (.tmp 6) ?_ (nt + 1) ?_ 22 (qab (qco q0 q1 q2 q3)) (0,0) _ hb1 u22 ?_ (by rw [qam];exact i22) ?_
    ·rfl
    ·rfl
    ·rfl
    ·rfl
    with_reducible refine qd8 ?_ 22 (.tmp 2) (.tmp 54) ?_ (w.heap.size + 1) (qab (qco q0 q1 q2 q3)) ?_ ?_ 22 (qab (fun _=>0)) hb2 (by rw [qam];exact i22) (by rw [qam,qam]) (qcu _) ?_
    ·rfl
    ·rfl
    ·rfl
    ·rfl
    rw [hb3]
    go_step
    go_step
    first | go_step | go_skip | go_back
    first | go_step | go_skip | go_back
    first | go_step | go_skip | go_back
    refine bodyPost_ret (results_cell_row (p:=2) (ty:=22) rfl _ _ (w.heap.size + 1) 22 (qab (qco q0 q1 q2 q3)) (0,0) _ ?_ hb4 u22 rfl (by rw [qam];exact i22)) rfl ⟨?_,?_⟩
    ·rfl
    ·rw [qbm (fun i hi=>qi9 q0 q1 q2 q3 hi),(qp5 hp.out hq.out hs.out).2 hc]
    ·exact ((((qaa _ _).trans (qaa _ _)).trans (qad _ _)).trans (qaa _ _)).trans (qaa _ _)
end Go.Proofs.YtgeihelkkhjjaaaGreatDoor
end
