/-
  Texts of the lemmas below the claim, put together: SgU SgG SgJ.
-/
import Derived.Test.YtgeihelkkhjjaaaGreatDoorMSgH
import Derived.Test.YtgeihelkkhjjaaaGreatDoorMSgD
import Derived.Test.YtgeihelkkhjjaaaGreatDoorMSgM
set_option linter.unusedSimpArgs false
set_option linter.unusedVariables false
set_option maxRecDepth 20000
set_option maxHeartbeats 16000000
section
namespace Go.Proofs.YtgeihelkkhjjaaaGreatDoor
open Go.RowKit Go.Cv Go.Cv.Pr Go.Cv.Grp Go.Cv.Hash
section
variable {w : World} {o : Oper} {ev : Operand → Value} {R : Value → World → Prop} {n : Nat} {b : UInt8} {c : Nat} {cs : List Value}
theorem gR512 : GC 22 := gcOf Tryz.func22 (by kernel_rfl) (by kernel_rfl)
theorem qnh (p : Operand) (ho : o.op = .indexAddr 23 p (.const (.int .i64 0))) (hc : ev (.const (.int .i64 0)) = .int .i64 0) (hx : ev p = .slice (some ⟨n, 0, none⟩) 32 c) (_ : 64 ≤ c) (h : R (.pointer (some ⟨n, 0, none⟩)) w) : qak Tryz.prog R ((execOp ev o).run Tryz.prog w) := by
 unfold execOp
 simp only [ho, hx, hc]
 go_simp
 exact h
theorem qks (p : Operand) (ho : o.op = .indexAddr 23 p (.const (.int .i64 31))) (hc : ev (.const (.int .i64 31)) = .int .i64 31) (hx : ev p = .slice (some ⟨n, 0, none⟩) 32 c) (_ : 64 ≤ c) (h : R (.pointer (some ⟨n, 31, none⟩)) w) : qak Tryz.prog R ((execOp ev o).run Tryz.prog w) := by
 unfold execOp
 simp only [ho, hx, hc]
 go_simp
 exact h
theorem ld_row {T : TypeId} (hR : RV w n T (fun u => u = .agg cs.toArray)) (k : Nat) {p : Operand} (ho : o.op = .load 5 p) (hx : ev p = .pointer (some ⟨n, k, none⟩)) {v : Value} (hv : cs[k]? = some v) (h : ∀ u, u = v → R u w) : qak Tryz.prog R ((execOp ev o).run Tryz.prog w) := by
 obtain ⟨ds, h1, h2⟩ := hR
 have e : ds = cs := by
  injection h2 with h2
  simpa using congrArg Array.toList h2
 subst e
 exact qcv _ p ho n k hx h1 v hv _ u5_ rfl (h _ rfl)
theorem st_row {T : TypeId} {ds : List Value} (k : Nat) (hR : Row w n T ds) (hd : (.agg ds.toArray : Value) = .agg cs.toArray) (hk : k < cs.length) (p q : Operand) (ho : o.op = .store 5 p q) (hx : ev p = .pointer (some ⟨n, k, none⟩)) {z : UInt8} (hy : ev q = .int .u8 (n8 z))
  (h : ∀ w', Row w' n T (cs.take k ++ .int .u8 (n8 z) :: cs.drop (k + 1)) → Keep [n] w w' → R undef w') : qak Tryz.prog R ((execOp ev o).run Tryz.prog w) := by
 have e : ds = cs := by
  injection hd with hd
  simpa using congrArg Array.toList hd
 subst e
 exact qey _ p q ho k _ hx hy hR hk i5_ rfl h
theorem g_quo8 (p q : Operand) (t : TypeId) (b : UInt8) (ho : o.op = .binOp .quo 5 p q t) (hx : ev p = .int .u8 (n8 b)) (hy : ev q = .int .u8 8) (h : R (.int .u8 (n8 (b / 8))) w) : qak Tryz.prog R ((execOp ev o).run Tryz.prog w) := by
 have e : (n8 b).tdiv 8 = n8 (b / 8) := rfl
 unfold execOp
 simp only [ho, hx, hy]
 go_simp
 exact h
theorem g_rem64 (p q : Operand) (t : TypeId) (b : UInt8) (ho : o.op = .binOp .rem 5 p q t) (hx : ev p = .int .u8 (n8 b)) (hy : ev q = .int .u8 64) (h : R (.int .u8 (n8 (b % 64))) w) : qak Tryz.prog R ((execOp ev o).run Tryz.prog w) := by
 have e : (n8 b).tmod 64 = n8 (b % 64) := rfl
 unfold execOp
 simp only [ho, hx, hy]
 go_simp
 exact h
theorem g_mul8 (p q : Operand) (t : TypeId) (b : UInt8) (ho : o.op = .binOp .mul 5 p q t) (hx : ev p = .int .u8 (n8 b)) (hy : ev q = .int .u8 8) (h : R (.int .u8 (n8 (b * 8))) w) : qak Tryz.prog R ((execOp ev o).run Tryz.prog w) := by
 unfold execOp
 simp only [ho, hx, hy]
 go_simp
 exact h
theorem g_add64 (p q : Operand) (t : TypeId) (b : UInt8) (ho : o.op = .binOp .add 5 p q t) (hx : ev p = .int .u8 (n8 b)) (hy : ev q = .int .u8 64) (h : R (.int .u8 (n8 (b + 64))) w) : qak Tryz.prog R ((execOp ev o).run Tryz.prog w) := by
 unfold execOp
 simp only [ho, hx, hy]
 go_simp
 exact h
end
theorem cut_32 (g q : Nat) (h : 64 ≤ q) : cutA (some ⟨g, 0, none⟩) 32 q 1 = some ⟨g, 32, none⟩ := by
 unfold cutA
 rw [if_neg (by omega)]
 rfl
theorem low3 (b : UInt8) : b / 8 * 8 = b &&& 248 := by
 have : ∀ n : Fin 256, UInt8.ofNat n.val / 8 * 8 = UInt8.ofNat n.val &&& 248 := by decide +kernel
 have h := this ⟨b.toNat, b.toNat_lt⟩
 simpa using h
theorem high2 (b : UInt8) : b % 64 + 64 = (b &&& 63) ||| 64 := by
 have : ∀ n : Fin 256, UInt8.ofNat n.val % 64 + 64 = (UInt8.ofNat n.val &&& 63) ||| 64 := by decide +kernel
 have h := this ⟨b.toNat, b.toNat_lt⟩
 simpa using h
theorem hL9 {ds cs : List Value} (h : (.agg ds.toArray : Value) = .agg cs.toArray) : ds = cs := by
 injection h with h
 simpa using congrArg Array.toList h
theorem num_row {cs ds : List Value} {H : List UInt8} {q : Nat} (hq : cs.length = q) (ht : cs.take 64 = H.map bv) (hH : H.length = 64) (h64 : 64 ≤ q) (hd : ds = (cs.take 0 ++ .int .u8 (n8 (H.getD 0 0 / 8 * 8)) :: cs.drop 1).take 31 ++ .int .u8 (n8 (H.getD 31 0 % 64 + 64)) :: (cs.take 0 ++ .int .u8 (n8 (H.getD 0 0 / 8 * 8)) :: cs.drop 1).drop 32) :
  ds.take 32 = (qai (sNum H)).map bv ∧ (ds.drop 32).take 32 = (qai (lf H 32)).map bv := by
 subst hd
 have hb : ∀ b : UInt8, bv b = .int .u8 (n8 b) := fun b => rfl
 have hget : ∀ i, i < 64 → cs[i]? = some (bv (H.getD i 0)) := fun i hi => by
  have h1 : (cs.take 64)[i]? = cs[i]? := by rw [List.getElem?_take, if_pos hi]
  rw [← h1, ht, List.getElem?_map, List.getD_eq_getElem?_getD, List.getElem?_eq_getElem (by omega)]
  rfl
 rw [low3, high2]
 have e1 : (((cs.take 0 ++ Value.int .u8 (n8 (H.getD 0 0 &&& 248)) :: cs.drop 1).take 31).length) = 31 := by simp [hq]; omega
 refine ⟨?_, ?_⟩
 ·apply List.ext_getElem?
  intro i
  by_cases hi : i < 32
  ·rw [List.getElem?_take, if_pos hi, List.getElem?_map, qai, List.getElem?_map, List.getElem?_range hi]
   simp only [Option.map_some]
   unfold sNum
   by_cases h31 : i = 31
   ·subst h31
    rw [if_pos rfl, List.getElem?_append_right (by rw [e1]; exact Nat.le_refl _), e1, Nat.sub_self]
    rfl
   ·rw [if_neg h31, List.getElem?_append_left (by simp [hq]; omega), List.getElem?_take, if_pos (by omega)]
    by_cases h0 : i = 0
    ·subst h0
     rw [if_pos rfl]; rfl
    ·rw [if_neg h0]
     obtain ⟨j, rfl⟩ : ∃ j, i = j + 1 := ⟨i - 1, by omega⟩
     simp only [List.take_zero, List.nil_append, List.getElem?_cons_succ, List.getElem?_drop]
     rw [Nat.add_comm 1 j]
     exact hget (j + 1) (by omega)
  ·rw [List.getElem?_eq_none (by simp; omega), List.getElem?_eq_none (by simp [qai]; omega)]
 ·apply List.ext_getElem?
  intro i
  by_cases hi : i < 32
  ·rw [List.getElem?_take, if_pos hi, List.getElem?_drop, List.getElem?_map, qai, List.getElem?_map, List.getElem?_range hi]
   rw [List.getElem?_append_right (by simp [hq]; omega)]
   rw [e1, show 32 + i - 31 = i + 1 by omega]
   simp only [List.getElem?_cons_succ, List.take_zero, List.nil_append, List.drop_succ_cons, List.getElem?_drop, Option.map_some]
   rw [show 1 + (31 + i) = 32 + i by omega]
   exact hget (32 + i) (by omega)
  ·rw [List.getElem?_eq_none (by simp; omega), List.getElem?_eq_none (by simp [qai]; omega)]
def qvu : List Plan := [⟨[], []⟩, ⟨[0], []⟩]
def qvv : List Plan := [⟨[], []⟩, ⟨[0], [(6, 0)]⟩, ⟨[0, 1], [(7, 1)]⟩]
def qvw : List Plan := [⟨[], []⟩, ⟨[0], [(8, 0)]⟩, ⟨[0, 1], [(9, 1)]⟩]
def qvx : List Plan := [⟨[], []⟩, ⟨[], []⟩, ⟨[1], [(11, 1)]⟩, ⟨[1, 2], [(12, 2)]⟩, ⟨[1, 2, 3], [(13, 3)]⟩, ⟨[1, 2, 3, 4], [(14, 4)]⟩, ⟨[0, 1, 2, 3, 4, 5], [(10, 0)]⟩, ⟨[0, 1, 2, 3, 4, 5, 6], [(15, 5), (16, 6)]⟩]
def qvy : List Plan := [⟨[], []⟩, ⟨[], []⟩, ⟨[1], [(18, 1)]⟩, ⟨[1, 2], [(19, 2)]⟩, ⟨[1, 2, 3], [(20, 3)]⟩, ⟨[1, 2, 3, 4], [(21, 4)]⟩, ⟨[0, 1, 2, 3, 4, 5], [(17, 0)]⟩, ⟨[0, 1, 2, 3, 4, 5, 6], [(22, 5), (23, 6)]⟩]
def qvz : List Plan := [⟨[], []⟩, ⟨[], []⟩, ⟨[1], [(25, 1)]⟩, ⟨[0], [(24, 0)]⟩, ⟨[0, 1, 2, 3], [(26, 2)]⟩]
theorem qhs (A : Option Addr) (c : Nat) (l : List UInt8) (w : World) (hl : l.length = 32) (hc : 32 ≤ c) (hr : Rd w A (l.map bv)) :
  Calls Tryz.prog 19 #[.slice A 32 c] w fun e w' => ∃ g q ds, e = .returned (.tuple #[.slice (some ⟨g, 0, none⟩) 32 q, .slice (some ⟨g, 32, none⟩) 32 (q - 32)]) ∧ 64 ≤ q ∧ Row w' g 5 ds ∧ (ds.take 32 = (qai (sNum (Hash.hash64 l))).map bv ∧ (ds.drop 32).take 32 = (qai (lf (Hash.hash64 l) 32)).map bv) ∧ Ext w w' := by
 have hH := qd5 l
 have hs : ∀ w' : World, Ext w w' → Calls Tryz.prog 22 #[.slice A 32 c] w' fun e w2 => ∃ u, e = .returned u ∧ slE 5 (fun g cs u => ∃ q, u = .slice (some ⟨g, 0, none⟩) 64 q ∧ cs.take 64 = (Hash.hash64 l).map bv ∧ cs.length = q ∧ 64 ≤ q ∧ w.heap.size ≤ g) u w2 ∧ Ext w' w2 := fun w' hx => (qio A 32 c l w' hl hc (hr.ext hx) (by decide)).mono fun e w2 ⟨v, he, ho, hx2⟩ => by
  obtain ⟨g, q, cs, rfl, hg, hq, hR, ht, hcs⟩ := own_rw ho (by decide)
  exact ⟨_, he, ⟨g, cs, hR, q, rfl, ht, hcs, hq, Nat.le_trans hx.size hg⟩, hx2⟩
 generalize Hash.hash64 l = H at *
 go_enter Tryz.func19, Tryz.ntmps19
 go_upto_region 0 with fail
 have hx : Ext w w := Ext.refl w
 have hE := hE0 []
 refine qac (InvE [] [] [] (fun j u => match j with | 0 => u = .slice none 0 0 | 1 => u = .slice none 0 0 | _ => True) [] w) qvu [(2, 0), (3, 1)] 27 rfl (by kernel_rfl) (InvE.start0 (Inv.start0 ⟨by simp, by simp, by simp, by simp⟩ (by simp))) ⟨?_, ?_, trivial⟩ ?_
 ·exact eV hE fun L v w D N I => ⟨rfl, Ext.refl _⟩
 ·exact eV hE fun L v w D N I => ⟨rfl, Ext.refl _⟩
 intro L v1 W1 hL hIE
 have hI := hIE.inv
 have hxr := hI.keep.to_ext
 replace hx := hx.trans hxr
 have hs_2_0 : (v1 0) = .slice none 0 0 := hI.val 0 (hL 0 (by decide))
 have hs_3_0 : (v1 1) = .slice none 0 0 := hI.val 1 (hL 1 (by decide))
 clear hI hIE hL hE L hxr
 simp only [putP, Act.put, zA, zB, zC, hs_2_0, hs_3_0]
 go_upto_region 1 with fail
 have hE : ∀ p ∈ ([(1, slE 5 (fun g cs u => ∃ q, u = .slice (some ⟨g, 0, none⟩) 64 q ∧ cs.take 64 = H.map bv ∧ cs.length = q ∧ 64 ≤ q ∧ w.heap.size ≤ g)), (2, slE 5 (fun g cs u => ∃ q, u = .slice (some ⟨g, 0, none⟩) 64 q ∧ cs.take 64 = H.map bv ∧ cs.length = q ∧ 64 ≤ q ∧ w.heap.size ≤ g))] : List (Nat × (Value → World → Prop))), qcb [] p.2 := by
  simp only [zD, zE, zF, zG, zH]
  exact ⟨qcu rfl, qcu rfl⟩
 refine qac (InvE [] [(1, slE 5 (fun g cs u => ∃ q, u = .slice (some ⟨g, 0, none⟩) 64 q ∧ cs.take 64 = H.map bv ∧ cs.length = q ∧ 64 ≤ q ∧ w.heap.size ≤ g)), (2, slE 5 (fun g cs u => ∃ q, u = .slice (some ⟨g, 0, none⟩) 64 q ∧ cs.take 64 = H.map bv ∧ cs.length = q ∧ 64 ≤ q ∧ w.heap.size ≤ g))] [] (fun j u => match j with | 0 => u = .slice A 32 c | _ => True) [] W1) qvv [(6, 0), (7, 1), (4, 2)] 27 rfl (by kernel_rfl) (InvE.start0 (Inv.start0 ⟨by simp, by simp, by simp, by simp⟩ (by simp))) ⟨?_, ?_, ?_, trivial⟩ ?_
 ·exact eV hE fun L v w D N I => ⟨rfl, Ext.refl _⟩
 ·exact qig 0 hE rfl rfl rfl rfl (fun _ => trivial) fun L v w D N I => gR512 _ _ rfl rfl (qal (hs w (hx.trans I.inv.keep.to_ext)) (ar1 (I.inv.val 0 (D 0 rfl))))
 ·exact qig 1 hE rfl rfl rfl rfl (fun _ => trivial) fun L v w D N I => ⟨(I.at 0 rfl (D 1 rfl)), Ext.refl _⟩
 intro L v2 W2 hL hIE
 have hI := hIE.inv
 have hxr := hI.keep.to_ext
 replace hx := hx.trans hxr
 obtain ⟨g, cs, R0_g, q, hb_g, ht, hq, hq64, bs_g⟩ := (hIE.at 1 rfl (hL 2 (by decide)))
 clear hI hIE hL hE L hxr
 simp only [putP, Act.put, zA, zB, zC, hb_g]
 have hget : ∀ i, i < 64 → cs[i]? = some (.int .u8 (n8 (H.getD i 0))) := fun i hi => by
  have h1 : (cs.take 64)[i]? = cs[i]? := by rw [List.getElem?_take, if_pos hi]
  rw [← h1, ht, List.getElem?_map, List.getD_eq_getElem?_getD, List.getElem?_eq_getElem (by omega)]
  rfl
 have hv0 := hget 0 (by decide)
 have hv31 : (cs.take 0 ++ Value.int .u8 (n8 (H.getD 0 0 / 8 * 8)) :: cs.drop 1)[31]? = some (.int .u8 (n8 (H.getD 31 0))) := by
  simp only [List.take_zero, List.nil_append, List.getElem?_cons_succ, List.getElem?_drop]
  exact hget 31 (by decide)
 clear hget hs
 have R_g : RV W2 g 5 (fun u => u = .agg cs.toArray) := ⟨cs, R0_g, rfl⟩
 have lt_g := R_g.lt
 go_upto_region 2 with fail
 have hE := hE0 []
 refine qac (InvE [] [] [] (fun j u => match j with | 0 => u = .slice (some ⟨g, 0, none⟩) 64 q | 1 => u = .slice (some ⟨g, 0, none⟩) 32 q | 2 => u = .slice (some ⟨g, 0, none⟩) 32 q | _ => True) [] W2) qvw [(8, 0), (9, 1), (5, 2)] 27 rfl (by kernel_rfl) (InvE.start0 (Inv.start0 ⟨by simp, by simp, by simp, by simp⟩ (by simp))) ⟨?_, ?_, ?_, trivial⟩ ?_
 ·exact eV hE fun L v w D N I => ⟨rfl, Ext.refl _⟩
 ·exact eV hE fun L v w D N I => qpf _ rfl rfl (I.inv.val 0 (D 0 rfl)) hq64 ⟨rfl, Ext.refl _⟩
 ·exact eV hE fun L v w D N I => ⟨(I.inv.val 1 (D 1 rfl)), Ext.refl _⟩
 intro L v3 W3 hL hIE
 have hI := hIE.inv
 replace R_g := R_g.keep0 hI.keep
 replace lt_g := ltk lt_g hI.keep.size
 have hxr := hI.keep.to_ext
 replace hx := hx.trans hxr
 have hs_5_2 : (v3 2) = .slice (some ⟨g, 0, none⟩) 32 q := hI.val 2 (hL 2 (by decide))
 clear hI hIE hL hE L hxr
 simp only [putP, Act.put, zA, zB, zC, hs_5_2]
 go_upto_region 3 with fail
 have hok : TrsOk [g] W3.heap.size ([(tk (none) g 5 (some 7) (fun u => u = .agg cs.toArray) (fun u => u = .agg ((cs).take 0 ++ .int .u8 (n8 (H.getD 0 0 / 8 * 8)) :: (cs).drop 1).toArray))] : List Trk) := ⟨by simp [tk, R_g.lt], by simp [tk], by simp [tk], by simp [tk]⟩
 have hE := hE0 [5]
 refine qac (InvE [5] [] [g] (fun j u => match j with | 0 => u = .slice (some ⟨g, 0, none⟩) 32 q | 1 => u = .slice (some ⟨g, 0, none⟩) 32 q | 2 => u = .pointer (some ⟨g, 0, none⟩) | 3 => u = .int .u8 (n8 (H.getD 0 0)) | 4 => u = .int .u8 (n8 (H.getD 0 0 / 8)) | 5 => u = .int .u8 (n8 (H.getD 0 0 / 8 * 8)) | 6 => u = .pointer (some ⟨g, 0, none⟩) | _ => True) [(tk (none) g 5 (some 7) (fun u => u = .agg cs.toArray) (fun u => u = .agg ((cs).take 0 ++ .int .u8 (n8 (H.getD 0 0 / 8 * 8)) :: (cs).drop 1).toArray))] W3) qvx [(10, 0), (11, 1), (12, 2), (13, 3), (14, 4), (15, 5), (16, 6)] 27 rfl (by kernel_rfl) (InvE.start0 (Inv.start0 hok (by
   simp only [zD, zE, zF, zG, zH]
   exact fun _ => R_g))) ⟨?_, ?_, ?_, ?_, ?_, ?_, ?_, ?_, trivial⟩ ?_
 ·exact eV hE fun L v w D N I => ⟨rfl, Ext.refl _⟩
 ·exact eV hE fun L v w D N I => ⟨rfl, Ext.refl _⟩
 ·exact eV hE fun L v w D N I => qnh _ rfl rfl (I.inv.val 1 (D 1 rfl)) hq64 ⟨rfl, Ext.refl _⟩
 ·exact eV hE fun L v w D N I => ld_row (I.inv.old 0 rfl (N 7 rfl)) 0 rfl (I.inv.val 2 (D 2 rfl)) hv0 ldK
 ·exact eV hE fun L v w D N I => g_quo8 _ _ _ _ rfl (I.inv.val 3 (D 3 rfl)) rfl ⟨rfl, Ext.refl _⟩
 ·exact eV hE fun L v w D N I => g_mul8 _ _ _ _ rfl (I.inv.val 4 (D 4 rfl)) rfl ⟨rfl, Ext.refl _⟩
 ·exact eV hE fun L v w D N I => qnh _ rfl rfl (I.inv.val 0 (D 0 rfl)) hq64 ⟨rfl, Ext.refl _⟩
 ·exact qfm 0 hE rfl rfl rfl rfl rfl rfl rfl hok fun L v w D I cs hR ho => st_row 0 hR ho (by simp [hq]; omega) _ _ rfl (I.inv.val 6 (D 6 rfl)) (I.inv.val 5 (D 5 rfl)) fun w1 a b => ⟨trivial, b, _, a, rfl⟩
 intro L v4 W4 hL hIE
 have hI := hIE.inv
 replace R_g := hI.new 0 rfl (hL 7 (by decide))
 replace lt_g := ltk lt_g hI.keep.size
 replace hx := hx.keep1 hI.keep bs_g
 clear hI hIE hL hE L hok
 simp only [putP, Act.put, zA, zB, zC]
 go_upto_region 4 with fail
 have hok : TrsOk [g] W4.heap.size ([(tk (none) g 5 (some 7) (fun u => u = .agg ((cs).take 0 ++ .int .u8 (n8 (H.getD 0 0 / 8 * 8)) :: (cs).drop 1).toArray) (fun u => u = .agg ((cs.take 0 ++ .int .u8 (n8 (H.getD 0 0 / 8 * 8)) :: cs.drop 1).take 31 ++ .int .u8 (n8 (H.getD 31 0 % 64 + 64)) :: (cs.take 0 ++ .int .u8 (n8 (H.getD 0 0 / 8 * 8)) :: cs.drop 1).drop 32).toArray))] : List Trk) := ⟨by simp [tk, R_g.lt], by simp [tk], by simp [tk], by simp [tk]⟩
 have hE := hE0 [5]
 refine qac (InvE [5] [] [g] (fun j u => match j with | 0 => u = .slice (some ⟨g, 0, none⟩) 32 q | 1 => u = .slice (some ⟨g, 0, none⟩) 32 q | 2 => u = .pointer (some ⟨g, 31, none⟩) | 3 => u = .int .u8 (n8 (H.getD 31 0)) | 4 => u = .int .u8 (n8 (H.getD 31 0 % 64)) | 5 => u = .int .u8 (n8 (H.getD 31 0 % 64 + 64)) | 6 => u = .pointer (some ⟨g, 31, none⟩) | _ => True) [(tk (none) g 5 (some 7) (fun u => u = .agg ((cs).take 0 ++ .int .u8 (n8 (H.getD 0 0 / 8 * 8)) :: (cs).drop 1).toArray) (fun u => u = .agg ((cs.take 0 ++ .int .u8 (n8 (H.getD 0 0 / 8 * 8)) :: cs.drop 1).take 31 ++ .int .u8 (n8 (H.getD 31 0 % 64 + 64)) :: (cs.take 0 ++ .int .u8 (n8 (H.getD 0 0 / 8 * 8)) :: cs.drop 1).drop 32).toArray))] W4) qvy [(17, 0), (18, 1), (19, 2), (20, 3), (21, 4), (22, 5), (23, 6)] 27 rfl (by kernel_rfl) (InvE.start0 (Inv.start0 hok (by
   simp only [zD, zE, zF, zG, zH]
   exact fun _ => R_g))) ⟨?_, ?_, ?_, ?_, ?_, ?_, ?_, ?_, trivial⟩ ?_
 ·exact eV hE fun L v w D N I => ⟨rfl, Ext.refl _⟩
 ·exact eV hE fun L v w D N I => ⟨rfl, Ext.refl _⟩
 ·exact eV hE fun L v w D N I => qks _ rfl rfl (I.inv.val 1 (D 1 rfl)) hq64 ⟨rfl, Ext.refl _⟩
 ·exact eV hE fun L v w D N I => ld_row (I.inv.old 0 rfl (N 7 rfl)) 31 rfl (I.inv.val 2 (D 2 rfl)) hv31 ldK
 ·exact eV hE fun L v w D N I => g_rem64 _ _ _ _ rfl (I.inv.val 3 (D 3 rfl)) rfl ⟨rfl, Ext.refl _⟩
 ·exact eV hE fun L v w D N I => g_add64 _ _ _ _ rfl (I.inv.val 4 (D 4 rfl)) rfl ⟨rfl, Ext.refl _⟩
 ·exact eV hE fun L v w D N I => qks _ rfl rfl (I.inv.val 0 (D 0 rfl)) hq64 ⟨rfl, Ext.refl _⟩
 ·exact qfm 0 hE rfl rfl rfl rfl rfl rfl rfl hok fun L v w D I cs hR ho => st_row 31 hR ho (by simp [hq]; omega) _ _ rfl (I.inv.val 6 (D 6 rfl)) (I.inv.val 5 (D 5 rfl)) fun w1 a b => ⟨trivial, b, _, a, rfl⟩
 intro L v5 W5 hL hIE
 have hI := hIE.inv
 replace R_g := hI.new 0 rfl (hL 7 (by decide))
 replace lt_g := ltk lt_g hI.keep.size
 replace hx := hx.keep1 hI.keep bs_g
 clear hI hIE hL hE L hok
 simp only [putP, Act.put, zA, zB, zC]
 go_upto_region 5 with fail
 have hE := hE0 []
 refine qaf (InvE [] [] [] (fun j u => match j with | 0 => u = .slice (some ⟨g, 0, none⟩) 32 q | 1 => u = .slice (some ⟨g, 0, none⟩) 64 q | 2 => u = .slice (some ⟨g, 32, none⟩) 32 (q - 32) | 3 => u = .slice (some ⟨g, 0, none⟩) 32 q | 4 => u = .slice (some ⟨g, 32, none⟩) 32 (q - 32) | _ => True) [] W5) qvz [(24, 0), (25, 1), (26, 2), (2, 3), (3, 4)] 27 (by kernel_rfl) rfl (by kernel_rfl) (InvE.start (Inv.start ⟨by simp, by simp, by simp, by simp⟩ (by simp))) ⟨?_, ?_, ?_, ?_, ?_, trivial⟩ ?_
 ·exact eV hE fun L v w D N I => ⟨rfl, Ext.refl _⟩
 ·exact eV hE fun L v w D N I => ⟨rfl, Ext.refl _⟩
 ·exact eV hE fun L v w D N I => qpe _ rfl rfl (I.inv.val 1 (D 1 rfl)) hq64 (cut_32 g q hq64) ⟨rfl, Ext.refl _⟩
 ·exact eV hE fun L v w D N I => ⟨(I.inv.val 0 (D 0 rfl)), Ext.refl _⟩
 ·exact eV hE fun L v w D N I => ⟨(I.inv.val 2 (D 2 rfl)), Ext.refl _⟩
 intro L v6 W6 hL hIE
 have hI := hIE.inv
 replace R_g := R_g.keep0 hI.keep
 replace lt_g := ltk lt_g hI.keep.size
 have hxr := hI.keep.to_ext
 replace hx := hx.trans hxr
 have hs_2_5 : (v6 3) = .slice (some ⟨g, 0, none⟩) 32 q := hI.val 3 (hL 3 (by decide))
 have hs_3_5 : (v6 4) = .slice (some ⟨g, 32, none⟩) 32 (q - 32) := hI.val 4 (hL 4 (by decide))
 clear hI hIE hL hE L hxr
 simp only [putP, Act.put, zA, zB, zC, hs_2_5, hs_3_5]
 go_wp2
 go_ret2
 obtain ⟨ds, hRd, hds⟩ := R_g
 exact ⟨g, q, ds, rfl, hq64, hRd, num_row hq ht hH hq64 (hL9 hds), hx⟩
end Go.Proofs.YtgeihelkkhjjaaaGreatDoor
end
section
namespace Go.Proofs.YtgeihelkkhjjaaaGreatDoor
open Go.RowKit Go.Cv Go.Cv.Pr Go.Cv.Grp Go.Cv.Hash
def qv0 : List Plan := [⟨[], []⟩]
def qv1 : List Plan := [⟨[], []⟩]
def qv2 : List Plan := [⟨[], []⟩, ⟨[0], [(15, 0)]⟩]
theorem rarr_any (A : Option Addr) (n c : Nat) (l : List UInt8) (w : World) (hl : l.length = n) (h32 : 32 ≤ n) (hr : Rd w A (l.map bv)) :
  Calls Tryz.prog 25 #[.slice A n c] w fun e w' => e = .returned (.agg (qab (lf l 0))) ∧ Ext w w' := by
 have HL := Lib.hid hl
 clear hl
 go_enter Tryz.func25, Tryz.ntmps25
 go_upto_region 0 with fail
 have hx : Ext w w := Ext.refl w
 have hok : TrsOk [] w.heap.size ([(tk (some 0) 0 22 (none) (sz 32) (fun _ => True))] : List Trk) := ⟨by simp [tk], by simp [tk], by simp [tk], by simp [tk]⟩
 have hE := hE0 []
 refine qac (InvE [] [] [] (fun _ _ => True) [(tk (some 0) 0 22 (none) (sz 32) (fun _ => True))] w) qv0 [(2, 0)] 16 rfl (by kernel_rfl) (InvE.start0 (Inv.start0 hok (by simp))) ⟨?_, trivial⟩ ?_
 ·exact qbz 0 hE rfl rfl rfl rfl rfl rfl hok fun L v w D I => al_B rfl fun c h => ⟨trivial, rfl, c, rfl, qa4 c h⟩
 intro L v1 W1 hL hIE
 have hI := hIE.inv
 obtain ⟨r, hb_r, lo_r, R_r⟩ := hI.made0 0 rfl (hL 0 (by decide))
 have bs_r := Nat.le_trans hx.size lo_r
 have lt_r := R_r.lt
 have hxr := hI.keep.to_ext
 replace hx := hx.trans hxr
 clear hI hIE hL hE L hok hxr
 simp only [putP, Act.put, zA, zB, zC, hb_r]
 go_upto_region 1 with fail
 have hok : TrsOk [] W1.heap.size ([(tk (some 0) 0 22 (none) (fun u => u = .agg (qab (fun _ => 0))) (fun _ => True))] : List Trk) := ⟨by simp [tk], by simp [tk], by simp [tk], by simp [tk]⟩
 have hE := hE0 []
 refine qac (InvE [] [] [] (fun _ _ => True) [(tk (some 0) 0 22 (none) (fun u => u = .agg (qab (fun _ => 0))) (fun _ => True))] W1) qv1 [(3, 0)] 16 rfl (by kernel_rfl) (InvE.start0 (Inv.start0 hok (by simp))) ⟨?_, trivial⟩ ?_
 ·exact qbz 0 hE rfl rfl rfl rfl rfl rfl hok fun L v w D I => al0_B rfl ⟨trivial, rfl, _, rfl, rfl⟩
 intro L v2 W2 hL hIE
 have hI := hIE.inv
 obtain ⟨b, hb_b, lo_b, R_b⟩ := hI.made0 0 rfl (hL 0 (by decide))
 replace R_r := R_r.keep0 hI.keep
 have ne_r_b := Nat.ne_of_lt (Nat.lt_of_lt_of_le lt_r lo_b)
 replace lt_r := ltk lt_r hI.keep.size
 have bs_b := Nat.le_trans hx.size lo_b
 have lt_b := R_b.lt
 have hxr := hI.keep.to_ext
 replace hx := hx.trans hxr
 clear hI hIE hL hE L hok hxr
 simp only [putP, Act.put, zA, zB, zC, hb_b]
 go_wp2
 go_loopw [4] (fun t4 wr => ∃ (i : Nat) (g : Nat → UInt8), i ≤ 32 ∧ t4 = .int .i64 i ∧ RV wr b 22 (fun u => u = .agg (qab g)) ∧ Hid (∀ j, j < i → g j = lf l 0 j) ∧ Keep [b] W2 wr) (fun t4 _ => 32 - (intOf t4).toNat)
 case atStart => exact ⟨0, _, by decide, rfl, R_b, Lib.hid (fun j hj => absurd hj (Nat.not_lt_zero j)), Keep.refl _ _⟩
 case round =>
  obtain ⟨i, g, hi, rfl, hR, hg, hk⟩ := hrel
  have hxr := hx.keep1 hk bs_b
  by_cases h1 : i < 32
  ·have h1' : (i : Int) < 32 := by omega
   have hni : i < n := by omega
   have hnI : (i : Int) < (n : Int) := by omega
   have hil : i < l.length := by rw [HL.out]; exact hni
   obtain ⟨ad, rfl, hcell⟩ := (hr.ext hxr).at_ (k := i) (by rw [List.length_map]; exact hil)
   rw [List.getElem_map] at hcell
   have hgi : Hid (∀ j, j < i + 1 → updb g i l[i] j = lf l 0 j) := Lib.hid (fun j hj => by
    unfold updb
    by_cases e : j = i
    ·rw [if_pos e, e]
     unfold lf
     rw [Nat.zero_add, List.getD_eq_getElem?_getD, List.getElem?_eq_getElem hil]; rfl
    ·rw [if_neg e]; exact hg.out j (by omega))
   have hR2 := hR.set i l[i]
   have hk2 : Keep [b] wr (wr.setCell ⟨b, i, none⟩ (.int .u8 (n8 l[i]))) := Keep.setCell wr ⟨b, i, none⟩ _
   generalize l[i]'hil = y at *
   have hcc := hR.byte h1
   have hff := hR.fro i
   clear hg R_r R_b
   go_wp2
   exact ⟨⟨i + 1, updb g i y, by omega, by go_num, hR2, hgi, hk.same hk2⟩, by simp [intOf]; omega⟩
  ·obtain rfl : i = 32 := by omega
   have R_b2 := hR
   replace R_r := R_r.keep1 hk (by simpa using ne_r_b)
   replace hx := hxr
   clear R_b
   have R_b := R_b2
   clear R_b2 hR
   have lt_r2 := R_r.lt
   have lt_b2 := R_b.lt
   replace lt_r := lt_r2
   replace lt_b := lt_b2
   clear lt_r2 lt_b2 hk hxr
   go_upto_region 6 with fail
   have hok : TrsOk [r] wr.heap.size ([(tk (none) r 22 (some 1) (sz 32) (fun u => u = .agg (qab (g))))] : List Trk) := ⟨by simp [tk, R_r.lt], by simp [tk], by simp [tk], by simp [tk]⟩
   have hE : ∀ p ∈ ([] : List (Nat × (Value → World → Prop))), qcb [22] p.2 := fun p hp => by cases hp
   refine qac (InvE [22] [] [r] (fun j u => match j with | 0 => u = .agg (qab (g)) | _ => True) [(tk (none) r 22 (some 1) (sz 32) (fun u => u = .agg (qab (g))))] wr) qv2 [(15, 0)] 16 rfl (by kernel_rfl) (InvE.start0 (Inv.start0 hok (by
     simp only [zD, zE, zF, zG, zH]
     exact fun _ => R_r))) ⟨?_, ?_, trivial⟩ ?_
   ·exact eV hE fun L v w D N I => ld_B (R_b.keep1 I.inv.keep (Ne.symm ne_r_b)) _ rfl rfl ldK
   ·exact qfm 0 hE rfl rfl rfl rfl rfl rfl rfl hok fun L v w D I cs hR ho => st_B hR (qaq ho) _ _ rfl rfl (I.inv.val 0 (D 0 rfl)) fun _ c a b k => ⟨trivial, k, c, a, b⟩
   intro L v3 W3 hL hIE
   have hI := hIE.inv
   replace R_b := R_b.keep1 hI.keep (Ne.symm ne_r_b)
   replace R_r := hI.new 0 rfl (hL 1 (by decide))
   replace lt_r := ltk lt_r hI.keep.size
   replace lt_b := ltk lt_b hI.keep.size
   replace hx := hx.keep1 hI.keep bs_r
   clear hI hIE hL hE L hok
   simp only [putP, Act.put, zA, zB, zC]
   go_wp2
   refine bodyPost_ret (qcm rfl _ R_r rfl) rfl ⟨?_, hx⟩
   rw [qbq hg.out]
theorem qgj (A : Option Addr) (c : Nat) (f : Nat → UInt8) (w : World) (hr : Rd w A ((qai f).map bv)) :
  Calls Tryz.prog 20 #[.slice A 32 c] w fun e w' => ∃ m, e = .returned (.slice (some ⟨m, 0, none⟩) 32 32) ∧ RV w' m 22 (fun u => u = .agg (qab (sKey f))) ∧ Ext w w' := by
 have hb := rbase
 have hi : ∀ w, Calls Tryz.prog 35 #[.agg (pc (fb B7.x) (fb B7.y))] w fun e w' => ∃ v, e = .returned v ∧ NP w' v B7 ∧ Ext w w' := fun w => rin7 (qb0 _) (qb0 _) w
 have ht := fun (w' : World) (v1 v3 : Value) (hx : Ext w w') h1 h3 => rtimes (w := w') (c := c) (f := f) (v1 := v1) (v3 := v3) (P := B7) (hr.ext hx) h1 h3
 have he : ∀ P : P7, ∀ w, Calls Tryz.prog 38 #[.agg (pc (fb P.x) (fb P.y))] w fun e w' => e = .returned (.agg (qab (encF P.x P.y))) ∧ Ext w w' := fun P w => by
  have := renc (fb P.x) (fb P.y) w
  rwa [qb0, qb0] at this
 have hK : sKey f = encF (Pt.mul (V f) B7).x (Pt.mul (V f) B7).y := rfl
 generalize Pt.mul (V f) B7 = Q at *
 replace hK := Lib.hid hK
 generalize (pc (fb B7.x) (fb B7.y)) = pb at *
 go_enter Tryz.func20, Tryz.ntmps20
 go_wp2_with (first
  | (go_at_call 36; (with_reducible refine (hb _).mono ?_); rintro e w1 ⟨rfl, hx1⟩)
  | (go_at_call 35; (with_reducible refine (hi _).mono ?_); rintro e w2 ⟨v2, rfl, hv2, hx2⟩)
  | (go_at_call 33; (with_reducible refine (nD _).mono ?_); rintro e w3 ⟨v3, rfl, hv3, hx3⟩; replace hv2 := hv2.ext hx3; have hx123 := (hx1.trans hx2).trans hx3)
  | (go_at_call 34; (with_reducible refine (ht _ _ _ hx123 hv2 hv3).mono ?_); rintro e w4 ⟨v4, rfl, hv4, hx4⟩; obtain ⟨a, b, d, X, Y, Z, rfl, ha, hb4, hd, h3⟩ := hv4; obtain ⟨A1, n1, k1, rfl⟩ := ha.sl; obtain ⟨A2, n2, k2, rfl⟩ := hb4.sl; obtain ⟨A3, n3, k3, rfl⟩ := hd.sl; have hv5 : NP w4 _ Q := ⟨_, _, _, X, Y, Z, rfl, ha, hb4, hd, h3⟩; have hx1234 := hx123.trans hx4; clear ha hb4 hd h3)
  | (go_at_call 39; (with_reducible refine (rout (hv5.ext (qaa _ _))).mono ?_); rintro e w5 ⟨rfl, hx5⟩)
  | (go_at_call 38; (with_reducible refine (he _ _).mono ?_); rintro e w6 ⟨rfl, hx6⟩))
 go_ret
 rw [hK.out]
 exact ⟨_, rfl, qmc _ _ _, hx1234.trans ((qaa _ _).trans (hx5.trans (hx6.trans (qaa _ _))))⟩
end Go.Proofs.YtgeihelkkhjjaaaGreatDoor
end
section
namespace Go.Proofs.YtgeihelkkhjjaaaGreatDoor
open Go.RowKit Go.Cv Go.Cv.Pr Go.Cv.Grp Go.Cv.Hash
section
variable {w : World} {o : Oper} {ev : Operand → Value} {R : Value → World → Prop}
theorem gArr : GC 25 := gcOf Tryz.func25 (by kernel_rfl) (by kernel_rfl)
theorem gRMA : GC 24 := gcOf Tryz.func24 (by kernel_rfl) (by kernel_rfl)
end
theorem qmv (A : Option Addr) (n c : Nat) (l : List UInt8) (w : World) (hl : l.length = n) (hnc : n ≤ c) (hr : Rd w A (l.map bv)) (bnd : n ≤ 5000000) :
  Calls Tryz.prog 22 #[.slice A n c] w fun e w' => ∃ g q, e = .returned (.slice (some ⟨g, 0, none⟩) 64 q) ∧ Rd w' (some ⟨g, 0, none⟩) ((Hash.hash64 l).map bv) ∧ Ext w w' :=
 (qio A n c l w hl hnc hr bnd).mono fun e w2 ⟨v, he, ho, hx⟩ => by
  obtain ⟨g, q, cs, rfl, hg, hq, hR, ht, hcs⟩ := own_rw ho (by decide)
  have h := (hR.rd 0).tk 64
  rw [List.drop_zero, ht] at h
  exact ⟨g, q, he, h, hx⟩
theorem qqc {w : World} {g : Nat} {T : TypeId} {ds : List Value} {x y : List UInt8} (hR : Row w g T ds) (h : ds.take 32 = x.map bv ∧ (ds.drop 32).take 32 = y.map bv) : Rd w (some ⟨g, 0, none⟩) (x.map bv) ∧ Rd w (some ⟨g, 32, none⟩) (y.map bv) := by
 have h1 := (hR.rd 0).tk 32
 rw [List.drop_zero, h.1] at h1
 have h2 := (hR.rd 32).tk 32
 rw [h.2] at h2
 exact ⟨h1, h2⟩
theorem qlk (A : Option Addr) (c : Nat) (f : Nat → UInt8) (w : World) (hc : 32 ≤ c) (hr : Rd w A ((qai f).map bv)) :
  Calls Tryz.prog 9 #[.slice A 32 c] w fun e w' => ∃ m, e = .returned (.slice (some ⟨m, 0, none⟩) 32 32) ∧ RV w' m 22 (fun u => u = .agg (qab (sKey (sNum (qa5 f))))) ∧ Ext w w' := by
 have hn : Calls Tryz.prog 19 #[.slice A 32 c] w fun e w' => ∃ g q ds, e = .returned (.tuple #[.slice (some ⟨g, 0, none⟩) 32 q, .slice (some ⟨g, 32, none⟩) 32 (q - 32)]) ∧ 64 ≤ q ∧ Row w' g 5 ds ∧ (ds.take 32 = (qai (sNum (qa5 f))).map bv ∧ (ds.drop 32).take 32 = (qai (lf (qa5 f) 32)).map bv) ∧ Ext w w' := qhs A c (qai f) w (qao f) hc hr
 generalize sNum (qa5 f) = N at *
 generalize lf (qa5 f) 32 = M at *
 have hp : ∀ w' (A1 : Option Addr) q, Rd w' A1 ((qai N).map bv) → Calls Tryz.prog 20 #[.slice A1 32 q] w' fun e w2 => ∃ m, e = .returned (.slice (some ⟨m, 0, none⟩) 32 32) ∧ RV w2 m 22 (fun u => u = .agg (qab (sKey N))) ∧ Ext w' w2 := fun w' A1 q h => qgj A1 q N w' h
 generalize sKey N = K at *
 go_enter Tryz.func9, Tryz.ntmps9
 go_wp2_with (first
  | (go_at_call 19; (with_reducible refine hn.mono ?_); rintro e w1 ⟨g, q, ds, rfl, hq, hR, hds, hx1⟩; have hA := (qqc hR hds).1)
  | (go_at_call 20; (with_reducible refine (hp _ _ _ hA).mono ?_); rintro e w2 ⟨m, rfl, hm, hx2⟩))
 go_ret
 exact ⟨m, rfl, hm, hx1.trans hx2⟩
def qvt : List Plan := [⟨[], []⟩, ⟨[], []⟩, ⟨[1], [(33, 1)]⟩, ⟨[], []⟩, ⟨[0, 1, 2, 3], [(32, 0), (34, 2), (35, 3)]⟩, ⟨[], []⟩, ⟨[0, 1, 2, 3, 4, 5], [(36, 4), (11, 5)]⟩]
theorem qpr (A : Option Addr) (c : Nat) (f : Nat → UInt8) (B : Option Addr) (n d : Nat) (t : List UInt8) (w : World) (hc : 32 ≤ c) (hr : Rd w A ((qai f).map bv)) (ht : t.length = n) (hr2 : Rd w B (t.map bv)) (bnd : n ≤ 4900000) :
  Calls Tryz.prog 10 #[.slice A 32 c, .slice B n d] w fun e w' => ∃ D q, e = .returned (.slice D 64 q) ∧ Rd w' D ((sSig (sNum (qa5 f)) (lf (qa5 f) 32) t).map bv) ∧ Ext w w' := by
 have hn : Calls Tryz.prog 19 #[.slice A 32 c] w fun e w' => ∃ g q ds, e = .returned (.tuple #[.slice (some ⟨g, 0, none⟩) 32 q, .slice (some ⟨g, 32, none⟩) 32 (q - 32)]) ∧ 64 ≤ q ∧ Row w' g 5 ds ∧ (ds.take 32 = (qai (sNum (qa5 f))).map bv ∧ (ds.drop 32).take 32 = (qai (lf (qa5 f) 32)).map bv) ∧ Ext w w' := qhs A c (qai f) w (qao f) hc hr
 generalize sNum (qa5 f) = N at *
 generalize lf (qa5 f) 32 = M at *
 have hp1 : ∀ w' (A1 : Option Addr) q, Rd w' A1 ((qai N).map bv) → Calls Tryz.prog 20 #[.slice A1 32 q] w' fun e w2 => ∃ m, e = .returned (.slice (some ⟨m, 0, none⟩) 32 32) ∧ RV w2 m 22 (fun u => u = .agg (qab (sKey N))) ∧ Ext w' w2 := fun w' A1 q h => qgj A1 q N w' h
 have hj1 : ∀ w' (A1 : Option Addr) q, Rd w' A1 ((qai M).map bv) → Ext w w' → Calls Tryz.prog 23 #[.slice A1 32 q, .slice B n d, .slice none 0 0] w' fun e w2 => ∃ D q, e = .returned (.slice D (32 + n) q) ∧ 32 + n ≤ q ∧ Rd w2 D ((qai M ++ t).map bv) ∧ Ext w' w2 := fun w' A1 q h hx => by
  have := qht A1 32 q (qai M) B n d t none 0 0 [] w' (qao M) h ht (hr2.ext hx) rfl Rd.nil_ (by omega)
  rwa [List.append_nil] at this
 have hs1 : ∀ w' (D : Option Addr) q, 32 + n ≤ q → Rd w' D ((qai M ++ t).map bv) → Calls Tryz.prog 22 #[.slice D (32 + n) q] w' fun e w2 => ∃ g q, e = .returned (.slice (some ⟨g, 0, none⟩) 64 q) ∧ Rd w2 (some ⟨g, 0, none⟩) ((Hash.hash64 (qai M ++ t)).map bv) ∧ Ext w' w2 := fun w' D q hq h => qmv D _ q _ w' (by simp [qao, ht]) hq h (by omega)
 have hc1 : ∀ w' (g q : Nat), Rd w' (some ⟨g, 0, none⟩) ((Hash.hash64 (qai M ++ t)).map bv) → Calls Tryz.prog 21 #[.slice (some ⟨g, 0, none⟩) 64 q] w' fun e w2 => e = .returned (.agg (qab (sDig (qai M ++ t)))) ∧ Ext w' w2 := fun w' g q h => qhp _ q _ w' (qd5 _) h
 have hS : sSig N M t = qai (sKey (sDig (qai M ++ t))) ++ qai (nb ((V (sDig (qai (sKey (sDig (qai M ++ t))) ++ (qai (sKey N) ++ t))) * V N + V (sDig (qai M ++ t))) % ordN)) := rfl
 generalize Hash.hash64 (qai M ++ t) = H1 at *
 generalize sDig (qai M ++ t) = D1 at *
 have hp2 : ∀ w' (A1 : Option Addr) q, Rd w' A1 ((qai D1).map bv) → Calls Tryz.prog 20 #[.slice A1 32 q] w' fun e w2 => ∃ m, e = .returned (.slice (some ⟨m, 0, none⟩) 32 32) ∧ RV w2 m 22 (fun u => u = .agg (qab (sKey D1))) ∧ Ext w' w2 := fun w' A1 q h => qgj A1 q D1 w' h
 generalize sKey D1 = P1 at *
 generalize sKey N = K at *
 have hj2 : ∀ w' (m1 m2 : Nat), RV w' m1 22 (fun u => u = .agg (qab P1)) → RV w' m2 22 (fun u => u = .agg (qab K)) → Ext w w' → Calls Tryz.prog 23 #[.slice (some ⟨m1, 0, none⟩) 32 32, .slice (some ⟨m2, 0, none⟩) 32 32, .slice B n d] w' fun e w2 => ∃ D q, e = .returned (.slice D (64 + n) q) ∧ 64 + n ≤ q ∧ Rd w2 D ((qai P1 ++ (qai K ++ t)).map bv) ∧ Ext w' w2 := fun w' m1 m2 h1 h2 hx => by
  have := qht (some ⟨m1, 0, none⟩) 32 32 (qai P1) (some ⟨m2, 0, none⟩) 32 32 (qai K) B n d t w' (qao _) (rd_B h1) (qao _) (rd_B h2) ht (hr2.ext hx) (by omega)
  rwa [List.append_assoc] at this
 have hs2 : ∀ w' (D : Option Addr) q, 64 + n ≤ q → Rd w' D ((qai P1 ++ (qai K ++ t)).map bv) → Calls Tryz.prog 22 #[.slice D (64 + n) q] w' fun e w2 => ∃ g q, e = .returned (.slice (some ⟨g, 0, none⟩) 64 q) ∧ Rd w2 (some ⟨g, 0, none⟩) ((Hash.hash64 (qai P1 ++ (qai K ++ t))).map bv) ∧ Ext w' w2 := fun w' D q hq h => qmv D _ q _ w' (by simp [qao, ht]; omega) hq h (by omega)
 have hc2 : ∀ w' (g q : Nat), Rd w' (some ⟨g, 0, none⟩) ((Hash.hash64 (qai P1 ++ (qai K ++ t))).map bv) → Calls Tryz.prog 21 #[.slice (some ⟨g, 0, none⟩) 64 q] w' fun e w2 => e = .returned (.agg (qab (sDig (qai P1 ++ (qai K ++ t))))) ∧ Ext w' w2 := fun w' g q h => qhp _ q _ w' (qd5 _) h
 generalize Hash.hash64 (qai P1 ++ (qai K ++ t)) = H2 at *
 generalize sDig (qai P1 ++ (qai K ++ t)) = D2 at *
 have hM : ∀ w' : World, Calls Tryz.prog 24 #[.agg (qab D2), .agg (qab N), .agg (qab D1)] w' fun e w2 => e = .returned (.agg (qab (nb ((V D2 * V N + V D1) % ordN)))) ∧ Ext w' w2 := fun w' => qlm D2 N D1 w'
 generalize nb ((V D2 * V N + V D1) % ordN) = S1 at *
 replace hS := Lib.hid hS
 have hj3 : ∀ w' (m1 m2 : Nat), RV w' m1 22 (fun u => u = .agg (qab P1)) → RV w' m2 22 (fun u => u = .agg (qab S1)) → Calls Tryz.prog 23 #[.slice (some ⟨m1, 0, none⟩) 32 32, .slice (some ⟨m2, 0, none⟩) 32 32, .slice none 0 0] w' fun e w2 => ∃ D q, e = .returned (.slice D 64 q) ∧ Rd w2 D ((qai P1 ++ qai S1).map bv) ∧ Ext w' w2 := fun w' m1 m2 h1 h2 => by
  refine (qht (some ⟨m1, 0, none⟩) 32 32 (qai P1) (some ⟨m2, 0, none⟩) 32 32 (qai S1) none 0 0 [] w' (qao _) (rd_B h1) (qao _) (rd_B h2) rfl Rd.nil_ (by decide)).mono fun e w2 h => ?_
  obtain ⟨D, q, he, hq, h3, hx⟩ := h
  rw [List.append_nil] at h3
  exact ⟨D, q, he, h3, hx⟩
 clear ht bnd
 go_enter Tryz.func10, Tryz.ntmps10
 go_upto_region 6 with (first
  | (go_at_call 19; (with_reducible refine hn.mono ?_); rintro e w1 ⟨g, q, ds, rfl, hq, hR, hds, hx1⟩; have hA := (qqc hR hds).1; have hMk := (qqc hR hds).2; clear hR hds hn)
  | (go_at_call 20; (with_reducible refine (hp1 _ _ _ hA).mono ?_); rintro e w2 ⟨m, rfl, hm, hx2⟩; replace hMk := hMk.ext hx2; have hx12 := hx1.trans hx2)
  | (go_at_call 23; (with_reducible refine (hj1 _ _ _ hMk hx12).mono ?_); rintro e w3 ⟨D3, q3, rfl, hq3, hr3, hx3⟩)
  | (go_at_call 22; (with_reducible refine (hs1 _ _ _ hq3 hr3).mono ?_); rintro e w4 ⟨g4, q4, rfl, hr4, hx4⟩)
  | (go_at_call 21; (with_reducible refine (hc1 _ _ _ hr4).mono ?_); rintro e w5 ⟨rfl, hx5⟩; have hRr := qmc w5 D1 22; have hxa := (hx3.trans (hx4.trans hx5)).trans (qaa w5 (.cells (qab D1) 22)); clear hr3 hr4 hq3)
  | (go_at_call 20; (with_reducible refine (hp2 _ _ _ (rd_B hRr)).mono ?_); rintro e w6 ⟨m6, rfl, hm6, hx6⟩; have hxb := hxa.trans hx6; have hxc := hx12.trans hxb; have hm2 := hm.ext hxb)
  | (go_at_call 23; (with_reducible refine (hj2 _ _ _ hm6 hm2 hxc).mono ?_); rintro e w7 ⟨D7, q7, rfl, hq7, hr7, hx7⟩)
  | (go_at_call 22; (with_reducible refine (hs2 _ _ _ hq7 hr7).mono ?_); rintro e w8 ⟨g8, q8, rfl, hr8, hx8⟩)
  | (go_at_call 21; (with_reducible refine (hc2 _ _ _ hr8).mono ?_); rintro e w9 ⟨rfl, hx9⟩; have hRk := qmc w9 D2 22; have hxd := (hx7.trans (hx8.trans hx9)).trans (qaa w9 (.cells (qab D2) 22)); clear hr7 hr8 hq7))
 have hP6 := hm6.ext hxd
 have R_r := hRr.ext (hx6.trans hxd)
 have R_k9 := hRk
 have hx := hxc.trans hxd
 replace hA := hA.ext (hx2.trans (hxb.trans hxd))
 generalize w5.heap.size = r at *
 generalize w9.heap.size = k9 at *
 generalize w9.alloc (.cells (qab D2) 22) = W0 at *
 have har : ∀ w', Rd w' (some ⟨g, 0, none⟩) ((qai N).map bv) → Calls Tryz.prog 25 #[.slice (some ⟨g, 0, none⟩) 32 q] w' fun e w2 => e = .returned (.agg (qab N)) ∧ Ext w' w2 := fun w' h => by
  have := rarr_any (some ⟨g, 0, none⟩) 32 q (qai N) w' (qao N) (Nat.le_refl _) h
  rwa [qic] at this
 clear hRk hRr hm hm6 hm2 hMk hx1 hx2 hx3 hx4 hx5 hx6 hx7 hx8 hx9 hxa hxb hxc hxd hx12 hp1 hp2 hj1 hj2 hs1 hs2 hc1 hc2
 have hxs := Ext.refl W0
 have hok : TrsOk [] W0.heap.size ([(tk (some 5) 0 22 (some 6) (sz 32) (fun u => u = .agg (qab (S1))))] : List Trk) := ⟨by simp [tk], by simp [tk], by simp [tk], by simp [tk]⟩
 have hE : ∀ p ∈ ([] : List (Nat × (Value → World → Prop))), qcb [22] p.2 := fun p hp => by cases hp
 refine qaf (InvE [22] [] [] (fun j u => match j with | 0 => u = .agg (qab (D2)) | 1 => u = .slice (some ⟨g, 0, none⟩) 32 q | 2 => u = .agg (qab (N)) | 3 => u = .agg (qab (D1)) | 4 => u = .agg (qab (S1)) | _ => True) [(tk (some 5) 0 22 (some 6) (sz 32) (fun u => u = .agg (qab (S1))))] W0) qvt [(32, 0), (33, 1), (34, 2), (35, 3), (36, 4), (11, 5)] 40 (by kernel_rfl) rfl (by kernel_rfl) (InvE.start (Inv.start hok (by simp))) ⟨?_, ?_, ?_, ?_, ?_, ?_, ?_, trivial⟩ ?_
 ·exact eV hE fun L v w D N I => ld_B (R_k9.keep0 I.inv.keep) _ rfl rfl ldK
 ·exact eV hE fun L v w D N I => ⟨rfl, Ext.refl _⟩
 ·exact eV hE fun L v w D N I => gArr _ _ rfl rfl (qag (qal (har w (hA.ext I.inv.keep.to_ext)) (ar1 (I.inv.val 1 (D 1 rfl)))))
 ·exact eV hE fun L v w D N I => ld_B (R_r.keep0 I.inv.keep) _ rfl rfl ldK
 ·exact eV hE fun L v w D N I => gRMA _ _ rfl rfl (qag (qal (hM w) (ar3 (I.inv.val 0 (D 0 rfl)) (I.inv.val 2 (D 2 rfl)) (I.inv.val 3 (D 3 rfl)))))
 ·exact qbz 0 hE rfl rfl rfl rfl rfl rfl hok fun L v w D I => al_B rfl fun c h => ⟨trivial, rfl, c, rfl, qa4 c h⟩
 ·exact qdd 0 5 hE rfl rfl rfl rfl rfl rfl rfl rfl hok fun L v w D I n cs hb hR ho => st_B hR (qaq ho) _ _ rfl hb (I.inv.val 4 (D 4 rfl)) fun _ c a b k => ⟨trivial, k, c, a, b⟩
 intro L v1 W1 hL hIE
 have hI := hIE.inv
 obtain ⟨last, hb_last, lo_last, R_last⟩ := hI.made 0 rfl (hL 5 (by decide)) (hL 6 (by decide))
 replace R_r := R_r.keep0 hI.keep
 replace R_k9 := R_k9.keep0 hI.keep
 have hxr := hI.keep.to_ext
 replace hx := hx.trans hxr
 replace hxs := hxs.trans hxr
 clear hI hIE hL hE L hok hxr
 simp only [putP, Act.put, zA, zB, zC, hb_last]
 replace hP6 := hP6.ext hxs
 go_wp2_with (go_at_call 23; (with_reducible refine (hj3 _ _ _ hP6 R_last).mono ?_); rintro e wz ⟨D, q9, rfl, hr9, hx9⟩)
 go_ret
 rw [hS.out]
 exact ⟨D, q9, rfl, hr9, hx.trans hx9⟩
end Go.Proofs.YtgeihelkkhjjaaaGreatDoor
end
