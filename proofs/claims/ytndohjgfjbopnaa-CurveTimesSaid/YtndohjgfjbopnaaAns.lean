/-
  The document's answer of layer 7: the sum.
-/
import Derived.Test.YtndohjgfjbopnaaAnsE
set_option linter.unusedSimpArgs false
set_option linter.unusedVariables false
namespace Go.Proofs.Ytndohjgfjbopnaa
open Go.RowKit Go.Cv Go.Cv.Pr Go.Cv.Grp Go.Cv.Dig
def plan_47_1 : List Plan := [⟨[], []⟩, ⟨[0], [(17, 0)]⟩, ⟨[], []⟩, ⟨[2], [(19, 2)]⟩, ⟨[0, 1, 2, 3], [(18, 1), (20, 3)]⟩, ⟨[0, 1, 2, 3, 4], [(21, 4)]⟩]
def plan_47_2 : List Plan := [⟨[], []⟩, ⟨[], []⟩, ⟨[0, 1], [(22, 0), (23, 1)]⟩, ⟨[0, 1, 2], [(24, 2)]⟩]
def plan_47_3 : List Plan := [⟨[], []⟩, ⟨[0], [(25, 0)]⟩, ⟨[], []⟩, ⟨[2], [(27, 2)]⟩, ⟨[0, 1, 2, 3], [(26, 1), (28, 3)]⟩, ⟨[0, 1, 2, 3, 4], [(29, 4)]⟩]
def plan_47_4 : List Plan := [⟨[], []⟩, ⟨[0], [(30, 0)]⟩, ⟨[], []⟩, ⟨[2], [(32, 2)]⟩, ⟨[0, 1, 2, 3], [(31, 1), (33, 3)]⟩, ⟨[0, 1, 2, 3, 4], [(34, 4)]⟩]
def plan_47_5 : List Plan := [⟨[], []⟩, ⟨[], []⟩, ⟨[], []⟩, ⟨[1, 2], [(36, 1), (37, 2)]⟩, ⟨[0, 1, 2, 3], [(35, 0), (38, 3)]⟩, ⟨[0, 1, 2, 3, 4], [(39, 4)]⟩]
def plan_47_6 : List Plan := [⟨[], []⟩, ⟨[0], [(40, 0)]⟩, ⟨[], []⟩, ⟨[2], [(42, 2)]⟩, ⟨[0, 1, 2, 3], [(41, 1), (43, 3)]⟩, ⟨[], []⟩, ⟨[5], [(45, 5)]⟩, ⟨[], []⟩, ⟨[7], [(47, 7)]⟩, ⟨[0, 1, 2, 3, 4, 5, 6, 7, 8], [(46, 6), (48, 8)]⟩, ⟨[0, 1, 2, 3, 4, 5, 6, 7, 8, 9], [(44, 4), (49, 9)]⟩, ⟨[0, 1, 2, 3, 4, 5, 6, 7, 8, 9, 10], [(50, 10)]⟩]
def plan_47_7 : List Plan := [⟨[], []⟩, ⟨[], []⟩, ⟨[0, 1], [(51, 0), (52, 1)]⟩, ⟨[0, 1, 2], [(53, 2)]⟩]
def plan_47_8 : List Plan := [⟨[], []⟩, ⟨[], []⟩, ⟨[0, 1], [(54, 0), (55, 1)]⟩, ⟨[0, 1, 2], [(56, 2)]⟩]
def plan_47_9 : List Plan := [⟨[], []⟩, ⟨[], []⟩, ⟨[0, 1], [(57, 0), (58, 1)]⟩, ⟨[], []⟩, ⟨[0, 1, 2, 3], [(59, 2), (60, 3)]⟩, ⟨[0, 1, 2, 3, 4], [(61, 4)]⟩]
def plan_47_10 : List Plan := [⟨[], []⟩, ⟨[], []⟩, ⟨[0, 1], [(62, 0), (63, 1)]⟩, ⟨[], []⟩, ⟨[], []⟩, ⟨[0, 1, 2, 3, 4], [(65, 3), (66, 4)]⟩, ⟨[0, 1, 2, 3, 4, 5], [(64, 2), (67, 5)]⟩, ⟨[0, 1, 2, 3, 4, 5, 6], [(68, 6)]⟩]
set_option maxRecDepth 20000 in
set_option maxHeartbeats 8000000 in
theorem radd {w : World} {v1 v2 v3 : Value} {P Q : P7} (h : NP w v1 P) (k : NP w v2 Q) (hd : NF w v3 C7.d) :
    Calls Try.prog 47 #[v1, v2, v3] w fun e w' => ∃ v, e = .returned v ∧ NP w' v (P.add Q) ∧ Ext w w' := by
  obtain ⟨a, b, c, X, Y, Z, rfl, ha, hb, hc, hP⟩ := h
  obtain ⟨a2, b2, c2, X2, Y2, Z2, rfl, ha2, hb2, hc2, hQ⟩ := k
  have hRR := hP.add hQ
  clear hP hQ
  generalize P.add Q = S at *
  generalize C7.d = d at *
  go_enter Try.func47, Try.ntmps47
  go_upto_region 1 with fail
  obtain ⟨E0, hE0⟩ : ∃ W, W = w.alloc (.cells #[a, b, c] 60) := ⟨_, rfl⟩
  obtain ⟨E1, hE1⟩ : ∃ W, W = E0.alloc (.cells #[a2, b2, c2] 60) := ⟨_, rfl⟩
  obtain ⟨E2, hE2⟩ : ∃ W, W = E1.alloc (.cells #[.slice none 0 0, .slice none 0 0, .slice none 0 0] 60) := ⟨_, rfl⟩
  rw [← hE0, ← hE1, ← hE2]
  have s0 : E0.heap.size = w.heap.size + 1 := by rw [hE0]; exact Array.size_push _
  have x0 : Ext w E0 := by rw [hE0]; exact ext_alloc _ _
  have s1 : E1.heap.size = w.heap.size + 1 + 1 := by rw [hE1, ← s0]; exact Array.size_push _
  have x1 : Ext E0 E1 := by rw [hE1]; exact ext_alloc _ _
  have s2 : E2.heap.size = w.heap.size + 1 + 1 + 1 := by rw [hE2, ← s1]; exact Array.size_push _
  have x2 : Ext E1 E2 := by rw [hE2]; exact ext_alloc _ _
  have R_q := R3w.new w a b c (ha.ext (Ext.refl w)) (hb.ext (Ext.refl w)) (hc.ext (Ext.refl w))
  rw [← hE0] at R_q
  replace R_q := R_q.ext x1
  replace R_q := R_q.ext x2
  have R_s := R3w.new E0 a2 b2 c2 (ha2.ext ((Ext.refl w).trans x0)) (hb2.ext ((Ext.refl w).trans x0)) (hc2.ext ((Ext.refl w).trans x0))
  rw [← hE1] at R_s
  replace R_s := R_s.ext x2
  rw [s0] at R_s
  have R_r := R3w.new E1 (.slice none 0 0) (.slice none 0 0) (.slice none 0 0) (NF.nil _) (NF.nil _) (NF.nil _)
  rw [← hE2] at R_r
  rw [s1] at R_r
  obtain ⟨q, hb0⟩ : ∃ b, b = w.heap.size := ⟨_, rfl⟩
  obtain ⟨s, hb1⟩ : ∃ b, b = w.heap.size + 1 := ⟨_, rfl⟩
  obtain ⟨r, hb2⟩ : ∃ b, b = w.heap.size + 1 + 1 := ⟨_, rfl⟩
  rw [← hb2] at R_r
  rw [← hb1] at R_s
  rw [← hb0] at R_q
  rw [← hb2, ← hb1, ← hb0]
  have hx : Ext w E2 := (((Ext.refl w).trans x0).trans x1).trans x2
  have lt_q : q < E2.heap.size := R_q.lt
  have bs_q : w.heap.size ≤ q := by omega
  have lt_s : s < E2.heap.size := R_s.lt
  have bs_s : w.heap.size ≤ s := by omega
  have ne_q_s : q ≠ s := by omega
  have lt_r : r < E2.heap.size := R_r.lt
  have bs_r : w.heap.size ≤ r := by omega
  have ne_q_r : q ≠ r := by omega
  have ne_s_r : s ≠ r := by omega
  clear hb0 s0 x0 hE0 hb1 s1 x1 hE1 hb2 s2 x2 hE2
  replace hd := hd.ext hx
  clear ha hb hc ha2 hb2 hc2
  have hok : TrsOk [] E2.heap.size ([] : List Trk) := ⟨by simp, by simp, by simp, by simp⟩
  refine wp_region_text (InvN [] (fun j u => match j with | 0 => u = .pointer (some ⟨q, 2, none⟩) | 2 => u = .pointer (some ⟨s, 2, none⟩) | _ => True) (fun j => match j with | 1 => some (Z) | 3 => some (Z2) | 4 => some ((Z) * (Z2)) | 5 => some ((Z) * (Z2)) | _ => none) (fun _ => none) [] E2) plan_47_1 [(17, 0), (18, 1), (19, 2), (20, 3), (21, 4), (7, 5)] 75 rfl (by kernel_rfl) (InvN.of (Inv.start0 hok (by simp))) ⟨?_, ?_, ?_, ?_, ?_, ?_, trivial⟩ ?_
  · intro L v w hL hD hC hI
    refine ⟨fun _ => ?_, fun hw => by cases hw⟩
    refine hI.val0 hL (by simp) rfl rfl ?_
    rw [show readsOf plan_47_1 0 = [] from rfl]
    go_simp
    exact ⟨rfl, Ext.refl _⟩
  · intro L v w hL hD hC hI
    refine ⟨fun _ => ?_, fun hw => by cases hw⟩
    have h0 : (v 0) = .pointer (some ⟨q, 2, none⟩) := hI.inv.val 0 (hD 0 (by decide))
    refine hI.numv _ hL (by simp) rfl rfl (fun _ => trivial) ?_
    rw [show readsOf plan_47_1 1 = [(17, 0)] from rfl]
    exact ld_3z (R_q.keep hI.inv.keep (by simp) (by simp)) _ rfl h0 fun u hu => ⟨hu, Ext.refl _⟩
  · intro L v w hL hD hC hI
    refine ⟨fun _ => ?_, fun hw => by cases hw⟩
    refine hI.val0 hL (by simp) rfl rfl ?_
    rw [show readsOf plan_47_1 2 = [] from rfl]
    go_simp
    exact ⟨rfl, Ext.refl _⟩
  · intro L v w hL hD hC hI
    refine ⟨fun _ => ?_, fun hw => by cases hw⟩
    have h2 : (v 2) = .pointer (some ⟨s, 2, none⟩) := hI.inv.val 2 (hD 2 (by decide))
    refine hI.numv _ hL (by simp) rfl rfl (fun _ => trivial) ?_
    rw [show readsOf plan_47_1 3 = [(19, 2)] from rfl]
    exact ld_3z (R_s.keep hI.inv.keep (by simp) (by simp)) _ rfl h2 fun u hu => ⟨hu, Ext.refl _⟩
  · intro L v w hL hD hC hI
    refine ⟨fun _ => ?_, fun hw => by cases hw⟩
    have h1 : NF w (v 1) (Z) := hI.num.n 1 _ (hD 1 (by decide)) rfl
    have h3 : NF w (v 3) (Z2) := hI.num.n 3 _ (hD 3 (by decide)) rfl
    refine hI.numv _ hL (by simp) rfl rfl (fun _ => trivial) ?_
    rw [show readsOf plan_47_1 4 = [(18, 1), (20, 3)] from rfl]
    refine give_call _ _ _ _ rfl rfl Try.func26 (by kernel_rfl) (by kernel_rfl) ?_
    refine Calls.mono (nmul h1 h3) ?_
    rintro e w' ⟨r, rfl, hr, hx⟩
    exact ⟨r, rfl, hr, hx⟩
  · intro L v w hL hD hC hI
    refine ⟨fun _ => ?_, fun hw => by cases hw⟩
    have h4 : NF w (v 4) ((Z) * (Z2)) := hI.num.n 4 _ (hD 4 (by decide)) rfl
    refine hI.numv _ hL (by simp) rfl rfl (fun _ => trivial) ?_
    rw [show readsOf plan_47_1 5 = [(21, 4)] from rfl]
    exact ⟨h4, Ext.refl _⟩
  intro L v1 W1 hL hI
  replace R_q := R_q.keep hI.inv.keep (by simp) (by simp)
  replace R_s := R_s.keep hI.inv.keep (by simp) (by simp)
  replace R_r := R_r.keep hI.inv.keep (by simp) (by simp)
  replace hd := hd.keep hI.inv.keep (by simp)
  replace lt_q := Nat.lt_of_lt_of_le lt_q hI.inv.keep.size
  replace lt_s := Nat.lt_of_lt_of_le lt_s hI.inv.keep.size
  replace lt_r := Nat.lt_of_lt_of_le lt_r hI.inv.keep.size
  have hx' : Ext w W1 := hx.trans hI.inv.keep.to_ext
  have hn_7 := hI.num.n 5 _ (hL 5 (by decide)) rfl
  clear hx hI hL hok L
  have hx := hx'
  clear hx'
  simp only [putP, Act.put, List.setIfInBounds_toArray, List.set_cons_zero, List.set_cons_succ]
  go_upto_region 2 with fail
  have hok : TrsOk [] W1.heap.size ([] : List Trk) := ⟨by simp, by simp, by simp, by simp⟩
  refine wp_region_text (InvN [] (fun _ _ => True) (fun j => match j with | 0 => some ((Z) * (Z2)) | 1 => some ((Z) * (Z2)) | 2 => some (((Z) * (Z2)) * ((Z) * (Z2))) | 3 => some (((Z) * (Z2)) * ((Z) * (Z2))) | _ => none) (fun _ => none) [] W1) plan_47_2 [(22, 0), (23, 1), (24, 2), (8, 3)] 75 rfl (by kernel_rfl) (InvN.of (Inv.start0 hok (by simp))) ⟨?_, ?_, ?_, ?_, trivial⟩ ?_
  · intro L v w hL hD hC hI
    refine ⟨fun _ => ?_, fun hw => by cases hw⟩
    refine hI.numv _ hL (by simp) rfl rfl (fun _ => trivial) ?_
    rw [show readsOf plan_47_2 0 = [] from rfl]
    exact ⟨hn_7.keep hI.inv.keep (by simp), Ext.refl _⟩
  · intro L v w hL hD hC hI
    refine ⟨fun _ => ?_, fun hw => by cases hw⟩
    refine hI.numv _ hL (by simp) rfl rfl (fun _ => trivial) ?_
    rw [show readsOf plan_47_2 1 = [] from rfl]
    exact ⟨hn_7.keep hI.inv.keep (by simp), Ext.refl _⟩
  · intro L v w hL hD hC hI
    refine ⟨fun _ => ?_, fun hw => by cases hw⟩
    have h0 : NF w (v 0) ((Z) * (Z2)) := hI.num.n 0 _ (hD 0 (by decide)) rfl
    have h1 : NF w (v 1) ((Z) * (Z2)) := hI.num.n 1 _ (hD 1 (by decide)) rfl
    refine hI.numv _ hL (by simp) rfl rfl (fun _ => trivial) ?_
    rw [show readsOf plan_47_2 2 = [(22, 0), (23, 1)] from rfl]
    refine give_call _ _ _ _ rfl rfl Try.func26 (by kernel_rfl) (by kernel_rfl) ?_
    refine Calls.mono (nmul h0 h1) ?_
    rintro e w' ⟨r, rfl, hr, hx⟩
    exact ⟨r, rfl, hr, hx⟩
  · intro L v w hL hD hC hI
    refine ⟨fun _ => ?_, fun hw => by cases hw⟩
    have h2 : NF w (v 2) (((Z) * (Z2)) * ((Z) * (Z2))) := hI.num.n 2 _ (hD 2 (by decide)) rfl
    refine hI.numv _ hL (by simp) rfl rfl (fun _ => trivial) ?_
    rw [show readsOf plan_47_2 3 = [(24, 2)] from rfl]
    exact ⟨h2, Ext.refl _⟩
  intro L v2 W2 hL hI
  replace R_q := R_q.keep hI.inv.keep (by simp) (by simp)
  replace R_s := R_s.keep hI.inv.keep (by simp) (by simp)
  replace R_r := R_r.keep hI.inv.keep (by simp) (by simp)
  replace hd := hd.keep hI.inv.keep (by simp)
  replace hn_7 := hn_7.keep hI.inv.keep (by simp)
  replace lt_q := Nat.lt_of_lt_of_le lt_q hI.inv.keep.size
  replace lt_s := Nat.lt_of_lt_of_le lt_s hI.inv.keep.size
  replace lt_r := Nat.lt_of_lt_of_le lt_r hI.inv.keep.size
  have hx' : Ext w W2 := hx.trans hI.inv.keep.to_ext
  have hn_8 := hI.num.n 3 _ (hL 3 (by decide)) rfl
  clear hx hI hL hok L
  have hx := hx'
  clear hx'
  simp only [putP, Act.put, List.setIfInBounds_toArray, List.set_cons_zero, List.set_cons_succ]
  go_upto_region 3 with fail
  have hok : TrsOk [] W2.heap.size ([] : List Trk) := ⟨by simp, by simp, by simp, by simp⟩
  refine wp_region_text (InvN [] (fun j u => match j with | 0 => u = .pointer (some ⟨q, 0, none⟩) | 2 => u = .pointer (some ⟨s, 0, none⟩) | _ => True) (fun j => match j with | 1 => some (X) | 3 => some (X2) | 4 => some ((X) * (X2)) | 5 => some ((X) * (X2)) | _ => none) (fun _ => none) [] W2) plan_47_3 [(25, 0), (26, 1), (27, 2), (28, 3), (29, 4), (9, 5)] 75 rfl (by kernel_rfl) (InvN.of (Inv.start0 hok (by simp))) ⟨?_, ?_, ?_, ?_, ?_, ?_, trivial⟩ ?_
  · intro L v w hL hD hC hI
    refine ⟨fun _ => ?_, fun hw => by cases hw⟩
    refine hI.val0 hL (by simp) rfl rfl ?_
    rw [show readsOf plan_47_3 0 = [] from rfl]
    go_simp
    exact ⟨rfl, Ext.refl _⟩
  · intro L v w hL hD hC hI
    refine ⟨fun _ => ?_, fun hw => by cases hw⟩
    have h0 : (v 0) = .pointer (some ⟨q, 0, none⟩) := hI.inv.val 0 (hD 0 (by decide))
    refine hI.numv _ hL (by simp) rfl rfl (fun _ => trivial) ?_
    rw [show readsOf plan_47_3 1 = [(25, 0)] from rfl]
    exact ld_3x (R_q.keep hI.inv.keep (by simp) (by simp)) _ rfl h0 fun u hu => ⟨hu, Ext.refl _⟩
  · intro L v w hL hD hC hI
    refine ⟨fun _ => ?_, fun hw => by cases hw⟩
    refine hI.val0 hL (by simp) rfl rfl ?_
    rw [show readsOf plan_47_3 2 = [] from rfl]
    go_simp
    exact ⟨rfl, Ext.refl _⟩
  · intro L v w hL hD hC hI
    refine ⟨fun _ => ?_, fun hw => by cases hw⟩
    have h2 : (v 2) = .pointer (some ⟨s, 0, none⟩) := hI.inv.val 2 (hD 2 (by decide))
    refine hI.numv _ hL (by simp) rfl rfl (fun _ => trivial) ?_
    rw [show readsOf plan_47_3 3 = [(27, 2)] from rfl]
    exact ld_3x (R_s.keep hI.inv.keep (by simp) (by simp)) _ rfl h2 fun u hu => ⟨hu, Ext.refl _⟩
  · intro L v w hL hD hC hI
    refine ⟨fun _ => ?_, fun hw => by cases hw⟩
    have h1 : NF w (v 1) (X) := hI.num.n 1 _ (hD 1 (by decide)) rfl
    have h3 : NF w (v 3) (X2) := hI.num.n 3 _ (hD 3 (by decide)) rfl
    refine hI.numv _ hL (by simp) rfl rfl (fun _ => trivial) ?_
    rw [show readsOf plan_47_3 4 = [(26, 1), (28, 3)] from rfl]
    refine give_call _ _ _ _ rfl rfl Try.func26 (by kernel_rfl) (by kernel_rfl) ?_
    refine Calls.mono (nmul h1 h3) ?_
    rintro e w' ⟨r, rfl, hr, hx⟩
    exact ⟨r, rfl, hr, hx⟩
  · intro L v w hL hD hC hI
    refine ⟨fun _ => ?_, fun hw => by cases hw⟩
    have h4 : NF w (v 4) ((X) * (X2)) := hI.num.n 4 _ (hD 4 (by decide)) rfl
    refine hI.numv _ hL (by simp) rfl rfl (fun _ => trivial) ?_
    rw [show readsOf plan_47_3 5 = [(29, 4)] from rfl]
    exact ⟨h4, Ext.refl _⟩
  intro L v3 W3 hL hI
  replace R_q := R_q.keep hI.inv.keep (by simp) (by simp)
  replace R_s := R_s.keep hI.inv.keep (by simp) (by simp)
  replace R_r := R_r.keep hI.inv.keep (by simp) (by simp)
  replace hd := hd.keep hI.inv.keep (by simp)
  replace hn_7 := hn_7.keep hI.inv.keep (by simp)
  replace hn_8 := hn_8.keep hI.inv.keep (by simp)
  replace lt_q := Nat.lt_of_lt_of_le lt_q hI.inv.keep.size
  replace lt_s := Nat.lt_of_lt_of_le lt_s hI.inv.keep.size
  replace lt_r := Nat.lt_of_lt_of_le lt_r hI.inv.keep.size
  have hx' : Ext w W3 := hx.trans hI.inv.keep.to_ext
  have hn_9 := hI.num.n 5 _ (hL 5 (by decide)) rfl
  clear hx hI hL hok L
  have hx := hx'
  clear hx'
  simp only [putP, Act.put, List.setIfInBounds_toArray, List.set_cons_zero, List.set_cons_succ]
  go_upto_region 4 with fail
  have hok : TrsOk [] W3.heap.size ([] : List Trk) := ⟨by simp, by simp, by simp, by simp⟩
  refine wp_region_text (InvN [] (fun j u => match j with | 0 => u = .pointer (some ⟨q, 1, none⟩) | 2 => u = .pointer (some ⟨s, 1, none⟩) | _ => True) (fun j => match j with | 1 => some (Y) | 3 => some (Y2) | 4 => some ((Y) * (Y2)) | 5 => some ((Y) * (Y2)) | _ => none) (fun _ => none) [] W3) plan_47_4 [(30, 0), (31, 1), (32, 2), (33, 3), (34, 4), (10, 5)] 75 rfl (by kernel_rfl) (InvN.of (Inv.start0 hok (by simp))) ⟨?_, ?_, ?_, ?_, ?_, ?_, trivial⟩ ?_
  · intro L v w hL hD hC hI
    refine ⟨fun _ => ?_, fun hw => by cases hw⟩
    refine hI.val0 hL (by simp) rfl rfl ?_
    rw [show readsOf plan_47_4 0 = [] from rfl]
    go_simp
    exact ⟨rfl, Ext.refl _⟩
  · intro L v w hL hD hC hI
    refine ⟨fun _ => ?_, fun hw => by cases hw⟩
    have h0 : (v 0) = .pointer (some ⟨q, 1, none⟩) := hI.inv.val 0 (hD 0 (by decide))
    refine hI.numv _ hL (by simp) rfl rfl (fun _ => trivial) ?_
    rw [show readsOf plan_47_4 1 = [(30, 0)] from rfl]
    exact ld_3y (R_q.keep hI.inv.keep (by simp) (by simp)) _ rfl h0 fun u hu => ⟨hu, Ext.refl _⟩
  · intro L v w hL hD hC hI
    refine ⟨fun _ => ?_, fun hw => by cases hw⟩
    refine hI.val0 hL (by simp) rfl rfl ?_
    rw [show readsOf plan_47_4 2 = [] from rfl]
    go_simp
    exact ⟨rfl, Ext.refl _⟩
  · intro L v w hL hD hC hI
    refine ⟨fun _ => ?_, fun hw => by cases hw⟩
    have h2 : (v 2) = .pointer (some ⟨s, 1, none⟩) := hI.inv.val 2 (hD 2 (by decide))
    refine hI.numv _ hL (by simp) rfl rfl (fun _ => trivial) ?_
    rw [show readsOf plan_47_4 3 = [(32, 2)] from rfl]
    exact ld_3y (R_s.keep hI.inv.keep (by simp) (by simp)) _ rfl h2 fun u hu => ⟨hu, Ext.refl _⟩
  · intro L v w hL hD hC hI
    refine ⟨fun _ => ?_, fun hw => by cases hw⟩
    have h1 : NF w (v 1) (Y) := hI.num.n 1 _ (hD 1 (by decide)) rfl
    have h3 : NF w (v 3) (Y2) := hI.num.n 3 _ (hD 3 (by decide)) rfl
    refine hI.numv _ hL (by simp) rfl rfl (fun _ => trivial) ?_
    rw [show readsOf plan_47_4 4 = [(31, 1), (33, 3)] from rfl]
    refine give_call _ _ _ _ rfl rfl Try.func26 (by kernel_rfl) (by kernel_rfl) ?_
    refine Calls.mono (nmul h1 h3) ?_
    rintro e w' ⟨r, rfl, hr, hx⟩
    exact ⟨r, rfl, hr, hx⟩
  · intro L v w hL hD hC hI
    refine ⟨fun _ => ?_, fun hw => by cases hw⟩
    have h4 : NF w (v 4) ((Y) * (Y2)) := hI.num.n 4 _ (hD 4 (by decide)) rfl
    refine hI.numv _ hL (by simp) rfl rfl (fun _ => trivial) ?_
    rw [show readsOf plan_47_4 5 = [(34, 4)] from rfl]
    exact ⟨h4, Ext.refl _⟩
  intro L v4 W4 hL hI
  replace R_q := R_q.keep hI.inv.keep (by simp) (by simp)
  replace R_s := R_s.keep hI.inv.keep (by simp) (by simp)
  replace R_r := R_r.keep hI.inv.keep (by simp) (by simp)
  replace hd := hd.keep hI.inv.keep (by simp)
  replace hn_7 := hn_7.keep hI.inv.keep (by simp)
  replace hn_8 := hn_8.keep hI.inv.keep (by simp)
  replace hn_9 := hn_9.keep hI.inv.keep (by simp)
  replace lt_q := Nat.lt_of_lt_of_le lt_q hI.inv.keep.size
  replace lt_s := Nat.lt_of_lt_of_le lt_s hI.inv.keep.size
  replace lt_r := Nat.lt_of_lt_of_le lt_r hI.inv.keep.size
  have hx' : Ext w W4 := hx.trans hI.inv.keep.to_ext
  have hn_10 := hI.num.n 5 _ (hL 5 (by decide)) rfl
  clear hx hI hL hok L
  have hx := hx'
  clear hx'
  simp only [putP, Act.put, List.setIfInBounds_toArray, List.set_cons_zero, List.set_cons_succ]
  go_upto_region 5 with fail
  have hok : TrsOk [] W4.heap.size ([] : List Trk) := ⟨by simp, by simp, by simp, by simp⟩
  refine wp_region_text (InvN [] (fun _ _ => True) (fun j => match j with | 0 => some (d) | 1 => some ((X) * (X2)) | 2 => some ((Y) * (Y2)) | 3 => some (((X) * (X2)) * ((Y) * (Y2))) | 4 => some ((d) * (((X) * (X2)) * ((Y) * (Y2)))) | 5 => some ((d) * (((X) * (X2)) * ((Y) * (Y2)))) | _ => none) (fun _ => none) [] W4) plan_47_5 [(35, 0), (36, 1), (37, 2), (38, 3), (39, 4), (11, 5)] 75 rfl (by kernel_rfl) (InvN.of (Inv.start0 hok (by simp))) ⟨?_, ?_, ?_, ?_, ?_, ?_, trivial⟩ ?_
  · intro L v w hL hD hC hI
    refine ⟨fun _ => ?_, fun hw => by cases hw⟩
    refine hI.numv _ hL (by simp) rfl rfl (fun _ => trivial) ?_
    rw [show readsOf plan_47_5 0 = [] from rfl]
    exact ⟨hd.keep hI.inv.keep (by simp), Ext.refl _⟩
  · intro L v w hL hD hC hI
    refine ⟨fun _ => ?_, fun hw => by cases hw⟩
    refine hI.numv _ hL (by simp) rfl rfl (fun _ => trivial) ?_
    rw [show readsOf plan_47_5 1 = [] from rfl]
    exact ⟨hn_9.keep hI.inv.keep (by simp), Ext.refl _⟩
  · intro L v w hL hD hC hI
    refine ⟨fun _ => ?_, fun hw => by cases hw⟩
    refine hI.numv _ hL (by simp) rfl rfl (fun _ => trivial) ?_
    rw [show readsOf plan_47_5 2 = [] from rfl]
    exact ⟨hn_10.keep hI.inv.keep (by simp), Ext.refl _⟩
  · intro L v w hL hD hC hI
    refine ⟨fun _ => ?_, fun hw => by cases hw⟩
    have h1 : NF w (v 1) ((X) * (X2)) := hI.num.n 1 _ (hD 1 (by decide)) rfl
    have h2 : NF w (v 2) ((Y) * (Y2)) := hI.num.n 2 _ (hD 2 (by decide)) rfl
    refine hI.numv _ hL (by simp) rfl rfl (fun _ => trivial) ?_
    rw [show readsOf plan_47_5 3 = [(36, 1), (37, 2)] from rfl]
    refine give_call _ _ _ _ rfl rfl Try.func26 (by kernel_rfl) (by kernel_rfl) ?_
    refine Calls.mono (nmul h1 h2) ?_
    rintro e w' ⟨r, rfl, hr, hx⟩
    exact ⟨r, rfl, hr, hx⟩
  · intro L v w hL hD hC hI
    refine ⟨fun _ => ?_, fun hw => by cases hw⟩
    have h0 : NF w (v 0) (d) := hI.num.n 0 _ (hD 0 (by decide)) rfl
    have h3 : NF w (v 3) (((X) * (X2)) * ((Y) * (Y2))) := hI.num.n 3 _ (hD 3 (by decide)) rfl
    refine hI.numv _ hL (by simp) rfl rfl (fun _ => trivial) ?_
    rw [show readsOf plan_47_5 4 = [(35, 0), (38, 3)] from rfl]
    refine give_call _ _ _ _ rfl rfl Try.func26 (by kernel_rfl) (by kernel_rfl) ?_
    refine Calls.mono (nmul h0 h3) ?_
    rintro e w' ⟨r, rfl, hr, hx⟩
    exact ⟨r, rfl, hr, hx⟩
  · intro L v w hL hD hC hI
    refine ⟨fun _ => ?_, fun hw => by cases hw⟩
    have h4 : NF w (v 4) ((d) * (((X) * (X2)) * ((Y) * (Y2)))) := hI.num.n 4 _ (hD 4 (by decide)) rfl
    refine hI.numv _ hL (by simp) rfl rfl (fun _ => trivial) ?_
    rw [show readsOf plan_47_5 5 = [(39, 4)] from rfl]
    exact ⟨h4, Ext.refl _⟩
  intro L v5 W5 hL hI
  replace R_q := R_q.keep hI.inv.keep (by simp) (by simp)
  replace R_s := R_s.keep hI.inv.keep (by simp) (by simp)
  replace R_r := R_r.keep hI.inv.keep (by simp) (by simp)
  replace hd := hd.keep hI.inv.keep (by simp)
  replace hn_7 := hn_7.keep hI.inv.keep (by simp)
  replace hn_8 := hn_8.keep hI.inv.keep (by simp)
  replace hn_9 := hn_9.keep hI.inv.keep (by simp)
  replace hn_10 := hn_10.keep hI.inv.keep (by simp)
  replace lt_q := Nat.lt_of_lt_of_le lt_q hI.inv.keep.size
  replace lt_s := Nat.lt_of_lt_of_le lt_s hI.inv.keep.size
  replace lt_r := Nat.lt_of_lt_of_le lt_r hI.inv.keep.size
  have hx' : Ext w W5 := hx.trans hI.inv.keep.to_ext
  have hn_11 := hI.num.n 5 _ (hL 5 (by decide)) rfl
  clear hx hI hL hok L
  have hx := hx'
  clear hx'
  simp only [putP, Act.put, List.setIfInBounds_toArray, List.set_cons_zero, List.set_cons_succ]
  go_upto_region 6 with fail
  have hok : TrsOk [] W5.heap.size ([] : List Trk) := ⟨by simp, by simp, by simp, by simp⟩
  refine wp_region_plan (InvN [] (fun j u => match j with | 0 => u = .pointer (some ⟨q, 0, none⟩) | 2 => u = .pointer (some ⟨s, 1, none⟩) | 5 => u = .pointer (some ⟨s, 0, none⟩) | 7 => u = .pointer (some ⟨q, 1, none⟩) | _ => True) (fun j => match j with | 1 => some (X) | 3 => some (Y2) | 4 => some ((X) * (Y2)) | 6 => some (X2) | 8 => some (Y) | 9 => some ((X2) * (Y)) | 10 => some (((X) * (Y2)) + ((X2) * (Y))) | 11 => some (((X) * (Y2)) + ((X2) * (Y))) | _ => none) (fun _ => none) [] W5) plan_47_6 [(40, 0), (41, 1), (42, 2), (43, 3), (44, 4), (45, 5), (46, 6), (47, 7), (48, 8), (49, 9), (50, 10), (12, 11)] 75 (by kernel_rfl) rfl (by kernel_rfl) (InvN.of (Inv.start hok (by simp))) ⟨?_, ?_, ?_, ?_, ?_, ?_, ?_, ?_, ?_, ?_, ?_, ?_, trivial⟩ ?_
  · intro L v w hL hD hC hI
    refine ⟨fun _ => ?_, fun hw => by cases hw⟩
    refine hI.val0 hL (by simp) rfl rfl ?_
    rw [show readsOf plan_47_6 0 = [] from rfl]
    go_simp
    exact ⟨rfl, Ext.refl _⟩
  · intro L v w hL hD hC hI
    refine ⟨fun _ => ?_, fun hw => by cases hw⟩
    have h0 : (v 0) = .pointer (some ⟨q, 0, none⟩) := hI.inv.val 0 (hD 0 (by decide))
    refine hI.numv _ hL (by simp) rfl rfl (fun _ => trivial) ?_
    rw [show readsOf plan_47_6 1 = [(40, 0)] from rfl]
    exact ld_3x (R_q.keep hI.inv.keep (by simp) (by simp)) _ rfl h0 fun u hu => ⟨hu, Ext.refl _⟩
  · intro L v w hL hD hC hI
    refine ⟨fun _ => ?_, fun hw => by cases hw⟩
    refine hI.val0 hL (by simp) rfl rfl ?_
    rw [show readsOf plan_47_6 2 = [] from rfl]
    go_simp
    exact ⟨rfl, Ext.refl _⟩
  · intro L v w hL hD hC hI
    refine ⟨fun _ => ?_, fun hw => by cases hw⟩
    have h2 : (v 2) = .pointer (some ⟨s, 1, none⟩) := hI.inv.val 2 (hD 2 (by decide))
    refine hI.numv _ hL (by simp) rfl rfl (fun _ => trivial) ?_
    rw [show readsOf plan_47_6 3 = [(42, 2)] from rfl]
    exact ld_3y (R_s.keep hI.inv.keep (by simp) (by simp)) _ rfl h2 fun u hu => ⟨hu, Ext.refl _⟩
  · intro L v w hL hD hC hI
    refine ⟨fun _ => ?_, fun hw => by cases hw⟩
    have h1 : NF w (v 1) (X) := hI.num.n 1 _ (hD 1 (by decide)) rfl
    have h3 : NF w (v 3) (Y2) := hI.num.n 3 _ (hD 3 (by decide)) rfl
    refine hI.numv _ hL (by simp) rfl rfl (fun _ => trivial) ?_
    rw [show readsOf plan_47_6 4 = [(41, 1), (43, 3)] from rfl]
    refine give_call _ _ _ _ rfl rfl Try.func26 (by kernel_rfl) (by kernel_rfl) ?_
    refine Calls.mono (nmul h1 h3) ?_
    rintro e w' ⟨r, rfl, hr, hx⟩
    exact ⟨r, rfl, hr, hx⟩
  · intro L v w hL hD hC hI
    refine ⟨fun _ => ?_, fun hw => by cases hw⟩
    refine hI.val0 hL (by simp) rfl rfl ?_
    rw [show readsOf plan_47_6 5 = [] from rfl]
    go_simp
    exact ⟨rfl, Ext.refl _⟩
  · intro L v w hL hD hC hI
    refine ⟨fun _ => ?_, fun hw => by cases hw⟩
    have h5 : (v 5) = .pointer (some ⟨s, 0, none⟩) := hI.inv.val 5 (hD 5 (by decide))
    refine hI.numv _ hL (by simp) rfl rfl (fun _ => trivial) ?_
    rw [show readsOf plan_47_6 6 = [(45, 5)] from rfl]
    exact ld_3x (R_s.keep hI.inv.keep (by simp) (by simp)) _ rfl h5 fun u hu => ⟨hu, Ext.refl _⟩
  · intro L v w hL hD hC hI
    refine ⟨fun _ => ?_, fun hw => by cases hw⟩
    refine hI.val0 hL (by simp) rfl rfl ?_
    rw [show readsOf plan_47_6 7 = [] from rfl]
    go_simp
    exact ⟨rfl, Ext.refl _⟩
  · intro L v w hL hD hC hI
    refine ⟨fun _ => ?_, fun hw => by cases hw⟩
    have h7 : (v 7) = .pointer (some ⟨q, 1, none⟩) := hI.inv.val 7 (hD 7 (by decide))
    refine hI.numv _ hL (by simp) rfl rfl (fun _ => trivial) ?_
    rw [show readsOf plan_47_6 8 = [(47, 7)] from rfl]
    exact ld_3y (R_q.keep hI.inv.keep (by simp) (by simp)) _ rfl h7 fun u hu => ⟨hu, Ext.refl _⟩
  · intro L v w hL hD hC hI
    refine ⟨fun _ => ?_, fun hw => by cases hw⟩
    have h6 : NF w (v 6) (X2) := hI.num.n 6 _ (hD 6 (by decide)) rfl
    have h8 : NF w (v 8) (Y) := hI.num.n 8 _ (hD 8 (by decide)) rfl
    refine hI.numv _ hL (by simp) rfl rfl (fun _ => trivial) ?_
    rw [show readsOf plan_47_6 9 = [(46, 6), (48, 8)] from rfl]
    refine give_call _ _ _ _ rfl rfl Try.func26 (by kernel_rfl) (by kernel_rfl) ?_
    refine Calls.mono (nmul h6 h8) ?_
    rintro e w' ⟨r, rfl, hr, hx⟩
    exact ⟨r, rfl, hr, hx⟩
  · intro L v w hL hD hC hI
    refine ⟨fun _ => ?_, fun hw => by cases hw⟩
    have h4 : NF w (v 4) ((X) * (Y2)) := hI.num.n 4 _ (hD 4 (by decide)) rfl
    have h9 : NF w (v 9) ((X2) * (Y)) := hI.num.n 9 _ (hD 9 (by decide)) rfl
    refine hI.numv _ hL (by simp) rfl rfl (fun _ => trivial) ?_
    rw [show readsOf plan_47_6 10 = [(44, 4), (49, 9)] from rfl]
    refine give_call _ _ _ _ rfl rfl Try.func22 (by kernel_rfl) (by kernel_rfl) ?_
    refine Calls.mono (nadd h4 h9) ?_
    rintro e w' ⟨r, rfl, hr, hx⟩
    exact ⟨r, rfl, hr, hx⟩
  · intro L v w hL hD hC hI
    refine ⟨fun _ => ?_, fun hw => by cases hw⟩
    have h10 : NF w (v 10) (((X) * (Y2)) + ((X2) * (Y))) := hI.num.n 10 _ (hD 10 (by decide)) rfl
    refine hI.numv _ hL (by simp) rfl rfl (fun _ => trivial) ?_
    rw [show readsOf plan_47_6 11 = [(50, 10)] from rfl]
    exact ⟨h10, Ext.refl _⟩
  intro L v6 W6 hL hI
  replace R_q := R_q.keep hI.inv.keep (by simp) (by simp)
  replace R_s := R_s.keep hI.inv.keep (by simp) (by simp)
  replace R_r := R_r.keep hI.inv.keep (by simp) (by simp)
  replace hd := hd.keep hI.inv.keep (by simp)
  replace hn_7 := hn_7.keep hI.inv.keep (by simp)
  replace hn_8 := hn_8.keep hI.inv.keep (by simp)
  replace hn_9 := hn_9.keep hI.inv.keep (by simp)
  replace hn_10 := hn_10.keep hI.inv.keep (by simp)
  replace hn_11 := hn_11.keep hI.inv.keep (by simp)
  replace lt_q := Nat.lt_of_lt_of_le lt_q hI.inv.keep.size
  replace lt_s := Nat.lt_of_lt_of_le lt_s hI.inv.keep.size
  replace lt_r := Nat.lt_of_lt_of_le lt_r hI.inv.keep.size
  have hx' : Ext w W6 := hx.trans hI.inv.keep.to_ext
  have hn_12 := hI.num.n 11 _ (hL 11 (by decide)) rfl
  clear hx hI hL hok L
  have hx := hx'
  clear hx'
  simp only [putP, Act.put, List.setIfInBounds_toArray, List.set_cons_zero, List.set_cons_succ]
  go_upto_region 7 with fail
  have hok : TrsOk [] W6.heap.size ([] : List Trk) := ⟨by simp, by simp, by simp, by simp⟩
  refine wp_region_text (InvN [] (fun _ _ => True) (fun j => match j with | 0 => some (((Z) * (Z2)) * ((Z) * (Z2))) | 1 => some ((d) * (((X) * (X2)) * ((Y) * (Y2)))) | 2 => some ((((Z) * (Z2)) * ((Z) * (Z2))) - ((d) * (((X) * (X2)) * ((Y) * (Y2))))) | 3 => some ((((Z) * (Z2)) * ((Z) * (Z2))) - ((d) * (((X) * (X2)) * ((Y) * (Y2))))) | _ => none) (fun _ => none) [] W6) plan_47_7 [(51, 0), (52, 1), (53, 2), (13, 3)] 75 rfl (by kernel_rfl) (InvN.of (Inv.start0 hok (by simp))) ⟨?_, ?_, ?_, ?_, trivial⟩ ?_
  · intro L v w hL hD hC hI
    refine ⟨fun _ => ?_, fun hw => by cases hw⟩
    refine hI.numv _ hL (by simp) rfl rfl (fun _ => trivial) ?_
    rw [show readsOf plan_47_7 0 = [] from rfl]
    exact ⟨hn_8.keep hI.inv.keep (by simp), Ext.refl _⟩
  · intro L v w hL hD hC hI
    refine ⟨fun _ => ?_, fun hw => by cases hw⟩
    refine hI.numv _ hL (by simp) rfl rfl (fun _ => trivial) ?_
    rw [show readsOf plan_47_7 1 = [] from rfl]
    exact ⟨hn_11.keep hI.inv.keep (by simp), Ext.refl _⟩
  · intro L v w hL hD hC hI
    refine ⟨fun _ => ?_, fun hw => by cases hw⟩
    have h0 : NF w (v 0) (((Z) * (Z2)) * ((Z) * (Z2))) := hI.num.n 0 _ (hD 0 (by decide)) rfl
    have h1 : NF w (v 1) ((d) * (((X) * (X2)) * ((Y) * (Y2)))) := hI.num.n 1 _ (hD 1 (by decide)) rfl
    refine hI.numv _ hL (by simp) rfl rfl (fun _ => trivial) ?_
    rw [show readsOf plan_47_7 2 = [(51, 0), (52, 1)] from rfl]
    refine give_call _ _ _ _ rfl rfl Try.func24 (by kernel_rfl) (by kernel_rfl) ?_
    refine Calls.mono (nsub h0 h1) ?_
    rintro e w' ⟨r, rfl, hr, hx⟩
    exact ⟨r, rfl, hr, hx⟩
  · intro L v w hL hD hC hI
    refine ⟨fun _ => ?_, fun hw => by cases hw⟩
    have h2 : NF w (v 2) ((((Z) * (Z2)) * ((Z) * (Z2))) - ((d) * (((X) * (X2)) * ((Y) * (Y2))))) := hI.num.n 2 _ (hD 2 (by decide)) rfl
    refine hI.numv _ hL (by simp) rfl rfl (fun _ => trivial) ?_
    rw [show readsOf plan_47_7 3 = [(53, 2)] from rfl]
    exact ⟨h2, Ext.refl _⟩
  intro L v7 W7 hL hI
  replace R_q := R_q.keep hI.inv.keep (by simp) (by simp)
  replace R_s := R_s.keep hI.inv.keep (by simp) (by simp)
  replace R_r := R_r.keep hI.inv.keep (by simp) (by simp)
  replace hd := hd.keep hI.inv.keep (by simp)
  replace hn_7 := hn_7.keep hI.inv.keep (by simp)
  replace hn_8 := hn_8.keep hI.inv.keep (by simp)
  replace hn_9 := hn_9.keep hI.inv.keep (by simp)
  replace hn_10 := hn_10.keep hI.inv.keep (by simp)
  replace hn_11 := hn_11.keep hI.inv.keep (by simp)
  replace hn_12 := hn_12.keep hI.inv.keep (by simp)
  replace lt_q := Nat.lt_of_lt_of_le lt_q hI.inv.keep.size
  replace lt_s := Nat.lt_of_lt_of_le lt_s hI.inv.keep.size
  replace lt_r := Nat.lt_of_lt_of_le lt_r hI.inv.keep.size
  have hx' : Ext w W7 := hx.trans hI.inv.keep.to_ext
  have hn_13 := hI.num.n 3 _ (hL 3 (by decide)) rfl
  clear hx hI hL hok L
  have hx := hx'
  clear hx'
  simp only [putP, Act.put, List.setIfInBounds_toArray, List.set_cons_zero, List.set_cons_succ]
  go_upto_region 8 with fail
  have hok : TrsOk [] W7.heap.size ([] : List Trk) := ⟨by simp, by simp, by simp, by simp⟩
  refine wp_region_text (InvN [] (fun _ _ => True) (fun j => match j with | 0 => some (((Z) * (Z2)) * ((Z) * (Z2))) | 1 => some ((d) * (((X) * (X2)) * ((Y) * (Y2)))) | 2 => some ((((Z) * (Z2)) * ((Z) * (Z2))) + ((d) * (((X) * (X2)) * ((Y) * (Y2))))) | 3 => some ((((Z) * (Z2)) * ((Z) * (Z2))) + ((d) * (((X) * (X2)) * ((Y) * (Y2))))) | _ => none) (fun _ => none) [] W7) plan_47_8 [(54, 0), (55, 1), (56, 2), (14, 3)] 75 rfl (by kernel_rfl) (InvN.of (Inv.start0 hok (by simp))) ⟨?_, ?_, ?_, ?_, trivial⟩ ?_
  · intro L v w hL hD hC hI
    refine ⟨fun _ => ?_, fun hw => by cases hw⟩
    refine hI.numv _ hL (by simp) rfl rfl (fun _ => trivial) ?_
    rw [show readsOf plan_47_8 0 = [] from rfl]
    exact ⟨hn_8.keep hI.inv.keep (by simp), Ext.refl _⟩
  · intro L v w hL hD hC hI
    refine ⟨fun _ => ?_, fun hw => by cases hw⟩
    refine hI.numv _ hL (by simp) rfl rfl (fun _ => trivial) ?_
    rw [show readsOf plan_47_8 1 = [] from rfl]
    exact ⟨hn_11.keep hI.inv.keep (by simp), Ext.refl _⟩
  · intro L v w hL hD hC hI
    refine ⟨fun _ => ?_, fun hw => by cases hw⟩
    have h0 : NF w (v 0) (((Z) * (Z2)) * ((Z) * (Z2))) := hI.num.n 0 _ (hD 0 (by decide)) rfl
    have h1 : NF w (v 1) ((d) * (((X) * (X2)) * ((Y) * (Y2)))) := hI.num.n 1 _ (hD 1 (by decide)) rfl
    refine hI.numv _ hL (by simp) rfl rfl (fun _ => trivial) ?_
    rw [show readsOf plan_47_8 2 = [(54, 0), (55, 1)] from rfl]
    refine give_call _ _ _ _ rfl rfl Try.func22 (by kernel_rfl) (by kernel_rfl) ?_
    refine Calls.mono (nadd h0 h1) ?_
    rintro e w' ⟨r, rfl, hr, hx⟩
    exact ⟨r, rfl, hr, hx⟩
  · intro L v w hL hD hC hI
    refine ⟨fun _ => ?_, fun hw => by cases hw⟩
    have h2 : NF w (v 2) ((((Z) * (Z2)) * ((Z) * (Z2))) + ((d) * (((X) * (X2)) * ((Y) * (Y2))))) := hI.num.n 2 _ (hD 2 (by decide)) rfl
    refine hI.numv _ hL (by simp) rfl rfl (fun _ => trivial) ?_
    rw [show readsOf plan_47_8 3 = [(56, 2)] from rfl]
    exact ⟨h2, Ext.refl _⟩
  intro L v8 W8 hL hI
  replace R_q := R_q.keep hI.inv.keep (by simp) (by simp)
  replace R_s := R_s.keep hI.inv.keep (by simp) (by simp)
  replace R_r := R_r.keep hI.inv.keep (by simp) (by simp)
  replace hd := hd.keep hI.inv.keep (by simp)
  replace hn_7 := hn_7.keep hI.inv.keep (by simp)
  replace hn_8 := hn_8.keep hI.inv.keep (by simp)
  replace hn_9 := hn_9.keep hI.inv.keep (by simp)
  replace hn_10 := hn_10.keep hI.inv.keep (by simp)
  replace hn_11 := hn_11.keep hI.inv.keep (by simp)
  replace hn_12 := hn_12.keep hI.inv.keep (by simp)
  replace hn_13 := hn_13.keep hI.inv.keep (by simp)
  replace lt_q := Nat.lt_of_lt_of_le lt_q hI.inv.keep.size
  replace lt_s := Nat.lt_of_lt_of_le lt_s hI.inv.keep.size
  replace lt_r := Nat.lt_of_lt_of_le lt_r hI.inv.keep.size
  have hx' : Ext w W8 := hx.trans hI.inv.keep.to_ext
  have hn_14 := hI.num.n 3 _ (hL 3 (by decide)) rfl
  clear hx hI hL hok L
  have hx := hx'
  clear hx'
  simp only [putP, Act.put, List.setIfInBounds_toArray, List.set_cons_zero, List.set_cons_succ]
  go_upto_region 9 with fail
  have hok : TrsOk [] W8.heap.size ([] : List Trk) := ⟨by simp, by simp, by simp, by simp⟩
  refine wp_region_text (InvN [] (fun _ _ => True) (fun j => match j with | 0 => some ((Z) * (Z2)) | 1 => some ((((Z) * (Z2)) * ((Z) * (Z2))) - ((d) * (((X) * (X2)) * ((Y) * (Y2))))) | 2 => some (((Z) * (Z2)) * ((((Z) * (Z2)) * ((Z) * (Z2))) - ((d) * (((X) * (X2)) * ((Y) * (Y2)))))) | 3 => some (((X) * (Y2)) + ((X2) * (Y))) | 4 => some ((((Z) * (Z2)) * ((((Z) * (Z2)) * ((Z) * (Z2))) - ((d) * (((X) * (X2)) * ((Y) * (Y2)))))) * (((X) * (Y2)) + ((X2) * (Y)))) | 5 => some ((((Z) * (Z2)) * ((((Z) * (Z2)) * ((Z) * (Z2))) - ((d) * (((X) * (X2)) * ((Y) * (Y2)))))) * (((X) * (Y2)) + ((X2) * (Y)))) | _ => none) (fun _ => none) [] W8) plan_47_9 [(57, 0), (58, 1), (59, 2), (60, 3), (61, 4), (15, 5)] 75 rfl (by kernel_rfl) (InvN.of (Inv.start0 hok (by simp))) ⟨?_, ?_, ?_, ?_, ?_, ?_, trivial⟩ ?_
  · intro L v w hL hD hC hI
    refine ⟨fun _ => ?_, fun hw => by cases hw⟩
    refine hI.numv _ hL (by simp) rfl rfl (fun _ => trivial) ?_
    rw [show readsOf plan_47_9 0 = [] from rfl]
    exact ⟨hn_7.keep hI.inv.keep (by simp), Ext.refl _⟩
  · intro L v w hL hD hC hI
    refine ⟨fun _ => ?_, fun hw => by cases hw⟩
    refine hI.numv _ hL (by simp) rfl rfl (fun _ => trivial) ?_
    rw [show readsOf plan_47_9 1 = [] from rfl]
    exact ⟨hn_13.keep hI.inv.keep (by simp), Ext.refl _⟩
  · intro L v w hL hD hC hI
    refine ⟨fun _ => ?_, fun hw => by cases hw⟩
    have h0 : NF w (v 0) ((Z) * (Z2)) := hI.num.n 0 _ (hD 0 (by decide)) rfl
    have h1 : NF w (v 1) ((((Z) * (Z2)) * ((Z) * (Z2))) - ((d) * (((X) * (X2)) * ((Y) * (Y2))))) := hI.num.n 1 _ (hD 1 (by decide)) rfl
    refine hI.numv _ hL (by simp) rfl rfl (fun _ => trivial) ?_
    rw [show readsOf plan_47_9 2 = [(57, 0), (58, 1)] from rfl]
    refine give_call _ _ _ _ rfl rfl Try.func26 (by kernel_rfl) (by kernel_rfl) ?_
    refine Calls.mono (nmul h0 h1) ?_
    rintro e w' ⟨r, rfl, hr, hx⟩
    exact ⟨r, rfl, hr, hx⟩
  · intro L v w hL hD hC hI
    refine ⟨fun _ => ?_, fun hw => by cases hw⟩
    refine hI.numv _ hL (by simp) rfl rfl (fun _ => trivial) ?_
    rw [show readsOf plan_47_9 3 = [] from rfl]
    exact ⟨hn_12.keep hI.inv.keep (by simp), Ext.refl _⟩
  · intro L v w hL hD hC hI
    refine ⟨fun _ => ?_, fun hw => by cases hw⟩
    have h2 : NF w (v 2) (((Z) * (Z2)) * ((((Z) * (Z2)) * ((Z) * (Z2))) - ((d) * (((X) * (X2)) * ((Y) * (Y2)))))) := hI.num.n 2 _ (hD 2 (by decide)) rfl
    have h3 : NF w (v 3) (((X) * (Y2)) + ((X2) * (Y))) := hI.num.n 3 _ (hD 3 (by decide)) rfl
    refine hI.numv _ hL (by simp) rfl rfl (fun _ => trivial) ?_
    rw [show readsOf plan_47_9 4 = [(59, 2), (60, 3)] from rfl]
    refine give_call _ _ _ _ rfl rfl Try.func26 (by kernel_rfl) (by kernel_rfl) ?_
    refine Calls.mono (nmul h2 h3) ?_
    rintro e w' ⟨r, rfl, hr, hx⟩
    exact ⟨r, rfl, hr, hx⟩
  · intro L v w hL hD hC hI
    refine ⟨fun _ => ?_, fun hw => by cases hw⟩
    have h4 : NF w (v 4) ((((Z) * (Z2)) * ((((Z) * (Z2)) * ((Z) * (Z2))) - ((d) * (((X) * (X2)) * ((Y) * (Y2)))))) * (((X) * (Y2)) + ((X2) * (Y)))) := hI.num.n 4 _ (hD 4 (by decide)) rfl
    refine hI.numv _ hL (by simp) rfl rfl (fun _ => trivial) ?_
    rw [show readsOf plan_47_9 5 = [(61, 4)] from rfl]
    exact ⟨h4, Ext.refl _⟩
  intro L v9 W9 hL hI
  replace R_q := R_q.keep hI.inv.keep (by simp) (by simp)
  replace R_s := R_s.keep hI.inv.keep (by simp) (by simp)
  replace R_r := R_r.keep hI.inv.keep (by simp) (by simp)
  replace hd := hd.keep hI.inv.keep (by simp)
  replace hn_7 := hn_7.keep hI.inv.keep (by simp)
  replace hn_8 := hn_8.keep hI.inv.keep (by simp)
  replace hn_9 := hn_9.keep hI.inv.keep (by simp)
  replace hn_10 := hn_10.keep hI.inv.keep (by simp)
  replace hn_11 := hn_11.keep hI.inv.keep (by simp)
  replace hn_12 := hn_12.keep hI.inv.keep (by simp)
  replace hn_13 := hn_13.keep hI.inv.keep (by simp)
  replace hn_14 := hn_14.keep hI.inv.keep (by simp)
  replace lt_q := Nat.lt_of_lt_of_le lt_q hI.inv.keep.size
  replace lt_s := Nat.lt_of_lt_of_le lt_s hI.inv.keep.size
  replace lt_r := Nat.lt_of_lt_of_le lt_r hI.inv.keep.size
  have hx' : Ext w W9 := hx.trans hI.inv.keep.to_ext
  have hn_15 := hI.num.n 5 _ (hL 5 (by decide)) rfl
  clear hx hI hL hok L
  have hx := hx'
  clear hx'
  simp only [putP, Act.put, List.setIfInBounds_toArray, List.set_cons_zero, List.set_cons_succ]
  go_upto_region 10 with fail
  have hok : TrsOk [] W9.heap.size ([] : List Trk) := ⟨by simp, by simp, by simp, by simp⟩
  refine wp_region_text (InvN [] (fun _ _ => True) (fun j => match j with | 0 => some ((Z) * (Z2)) | 1 => some ((((Z) * (Z2)) * ((Z) * (Z2))) + ((d) * (((X) * (X2)) * ((Y) * (Y2))))) | 2 => some (((Z) * (Z2)) * ((((Z) * (Z2)) * ((Z) * (Z2))) + ((d) * (((X) * (X2)) * ((Y) * (Y2)))))) | 3 => some ((Y) * (Y2)) | 4 => some ((X) * (X2)) | 5 => some (((Y) * (Y2)) + ((X) * (X2))) | 6 => some ((((Z) * (Z2)) * ((((Z) * (Z2)) * ((Z) * (Z2))) + ((d) * (((X) * (X2)) * ((Y) * (Y2)))))) * (((Y) * (Y2)) + ((X) * (X2)))) | 7 => some ((((Z) * (Z2)) * ((((Z) * (Z2)) * ((Z) * (Z2))) + ((d) * (((X) * (X2)) * ((Y) * (Y2)))))) * (((Y) * (Y2)) + ((X) * (X2)))) | _ => none) (fun _ => none) [] W9) plan_47_10 [(62, 0), (63, 1), (64, 2), (65, 3), (66, 4), (67, 5), (68, 6), (16, 7)] 75 rfl (by kernel_rfl) (InvN.of (Inv.start0 hok (by simp))) ⟨?_, ?_, ?_, ?_, ?_, ?_, ?_, ?_, trivial⟩ ?_
  · intro L v w hL hD hC hI
    refine ⟨fun _ => ?_, fun hw => by cases hw⟩
    refine hI.numv _ hL (by simp) rfl rfl (fun _ => trivial) ?_
    rw [show readsOf plan_47_10 0 = [] from rfl]
    exact ⟨hn_7.keep hI.inv.keep (by simp), Ext.refl _⟩
  · intro L v w hL hD hC hI
    refine ⟨fun _ => ?_, fun hw => by cases hw⟩
    refine hI.numv _ hL (by simp) rfl rfl (fun _ => trivial) ?_
    rw [show readsOf plan_47_10 1 = [] from rfl]
    exact ⟨hn_14.keep hI.inv.keep (by simp), Ext.refl _⟩
  · intro L v w hL hD hC hI
    refine ⟨fun _ => ?_, fun hw => by cases hw⟩
    have h0 : NF w (v 0) ((Z) * (Z2)) := hI.num.n 0 _ (hD 0 (by decide)) rfl
    have h1 : NF w (v 1) ((((Z) * (Z2)) * ((Z) * (Z2))) + ((d) * (((X) * (X2)) * ((Y) * (Y2))))) := hI.num.n 1 _ (hD 1 (by decide)) rfl
    refine hI.numv _ hL (by simp) rfl rfl (fun _ => trivial) ?_
    rw [show readsOf plan_47_10 2 = [(62, 0), (63, 1)] from rfl]
    refine give_call _ _ _ _ rfl rfl Try.func26 (by kernel_rfl) (by kernel_rfl) ?_
    refine Calls.mono (nmul h0 h1) ?_
    rintro e w' ⟨r, rfl, hr, hx⟩
    exact ⟨r, rfl, hr, hx⟩
  · intro L v w hL hD hC hI
    refine ⟨fun _ => ?_, fun hw => by cases hw⟩
    refine hI.numv _ hL (by simp) rfl rfl (fun _ => trivial) ?_
    rw [show readsOf plan_47_10 3 = [] from rfl]
    exact ⟨hn_10.keep hI.inv.keep (by simp), Ext.refl _⟩
  · intro L v w hL hD hC hI
    refine ⟨fun _ => ?_, fun hw => by cases hw⟩
    refine hI.numv _ hL (by simp) rfl rfl (fun _ => trivial) ?_
    rw [show readsOf plan_47_10 4 = [] from rfl]
    exact ⟨hn_9.keep hI.inv.keep (by simp), Ext.refl _⟩
  · intro L v w hL hD hC hI
    refine ⟨fun _ => ?_, fun hw => by cases hw⟩
    have h3 : NF w (v 3) ((Y) * (Y2)) := hI.num.n 3 _ (hD 3 (by decide)) rfl
    have h4 : NF w (v 4) ((X) * (X2)) := hI.num.n 4 _ (hD 4 (by decide)) rfl
    refine hI.numv _ hL (by simp) rfl rfl (fun _ => trivial) ?_
    rw [show readsOf plan_47_10 5 = [(65, 3), (66, 4)] from rfl]
    refine give_call _ _ _ _ rfl rfl Try.func22 (by kernel_rfl) (by kernel_rfl) ?_
    refine Calls.mono (nadd h3 h4) ?_
    rintro e w' ⟨r, rfl, hr, hx⟩
    exact ⟨r, rfl, hr, hx⟩
  · intro L v w hL hD hC hI
    refine ⟨fun _ => ?_, fun hw => by cases hw⟩
    have h2 : NF w (v 2) (((Z) * (Z2)) * ((((Z) * (Z2)) * ((Z) * (Z2))) + ((d) * (((X) * (X2)) * ((Y) * (Y2)))))) := hI.num.n 2 _ (hD 2 (by decide)) rfl
    have h5 : NF w (v 5) (((Y) * (Y2)) + ((X) * (X2))) := hI.num.n 5 _ (hD 5 (by decide)) rfl
    refine hI.numv _ hL (by simp) rfl rfl (fun _ => trivial) ?_
    rw [show readsOf plan_47_10 6 = [(64, 2), (67, 5)] from rfl]
    refine give_call _ _ _ _ rfl rfl Try.func26 (by kernel_rfl) (by kernel_rfl) ?_
    refine Calls.mono (nmul h2 h5) ?_
    rintro e w' ⟨r, rfl, hr, hx⟩
    exact ⟨r, rfl, hr, hx⟩
  · intro L v w hL hD hC hI
    refine ⟨fun _ => ?_, fun hw => by cases hw⟩
    have h6 : NF w (v 6) ((((Z) * (Z2)) * ((((Z) * (Z2)) * ((Z) * (Z2))) + ((d) * (((X) * (X2)) * ((Y) * (Y2)))))) * (((Y) * (Y2)) + ((X) * (X2)))) := hI.num.n 6 _ (hD 6 (by decide)) rfl
    refine hI.numv _ hL (by simp) rfl rfl (fun _ => trivial) ?_
    rw [show readsOf plan_47_10 7 = [(68, 6)] from rfl]
    exact ⟨h6, Ext.refl _⟩
  intro L v10 W10 hL hI
  replace R_q := R_q.keep hI.inv.keep (by simp) (by simp)
  replace R_s := R_s.keep hI.inv.keep (by simp) (by simp)
  replace R_r := R_r.keep hI.inv.keep (by simp) (by simp)
  replace hd := hd.keep hI.inv.keep (by simp)
  replace hn_7 := hn_7.keep hI.inv.keep (by simp)
  replace hn_8 := hn_8.keep hI.inv.keep (by simp)
  replace hn_9 := hn_9.keep hI.inv.keep (by simp)
  replace hn_10 := hn_10.keep hI.inv.keep (by simp)
  replace hn_11 := hn_11.keep hI.inv.keep (by simp)
  replace hn_12 := hn_12.keep hI.inv.keep (by simp)
  replace hn_13 := hn_13.keep hI.inv.keep (by simp)
  replace hn_14 := hn_14.keep hI.inv.keep (by simp)
  replace hn_15 := hn_15.keep hI.inv.keep (by simp)
  replace lt_q := Nat.lt_of_lt_of_le lt_q hI.inv.keep.size
  replace lt_s := Nat.lt_of_lt_of_le lt_s hI.inv.keep.size
  replace lt_r := Nat.lt_of_lt_of_le lt_r hI.inv.keep.size
  have hx' : Ext w W10 := hx.trans hI.inv.keep.to_ext
  have hn_16 := hI.num.n 7 _ (hL 7 (by decide)) rfl
  clear hx hI hL hok L
  have hx := hx'
  clear hx'
  simp only [putP, Act.put, List.setIfInBounds_toArray, List.set_cons_zero, List.set_cons_succ]
  obtain ⟨cs, hr1, -⟩ : ∃ cs, Row W10 r 60 cs ∧ cs.length = 3 := by
    obtain ⟨a, b, c, h1, -⟩ := R_r
    exact ⟨_, h1, rfl⟩
  have noi_r := R_r.noI
  obtain ⟨A1, n1, c1, q1⟩ := hn_15.sl
  obtain ⟨A2, n2, c2', q2⟩ := hn_16.sl
  rw [q1] at hn_15 ⊢
  rw [q2] at hn_16 ⊢
  skip
  go_wp2_with fail
  go_at_call 26
  with_reducible refine (nmul hn_13 hn_14).mono ?_
  rintro e w9 ⟨v9, rfl, hv9, hx9⟩
  obtain ⟨A3, n3, c3, sl9⟩ := hv9.sl
  subst sl9
  obtain ⟨z1, z2, z3, hR9, -, -, -⟩ := R_r.ext hx9
  have f0 := hR9.fro 0
  have f1 := hR9.fro 1
  have f2 := hR9.fro 2
  have g0 := hR9.cell (i := 0) (by simp)
  have g1 := hR9.cell (i := 1) (by simp)
  have g2 := hR9.cell (i := 2) (by simp)
  go_wp2
  have hRf : Row _ r 60 [.slice A1 n1 c1, .slice A2 n2 c2', .slice A3 n3 c3] := ((hR9.set 0 (.slice A1 n1 c1)).set 1 (.slice A2 n2 c2')).set 2 (.slice A3 n3 c3)
  have hK := ((Keep.setCell w9 ⟨r, 0, none⟩ (.slice A1 n1 c1)).same (Keep.setCell (w9.setCell ⟨r, 0, none⟩ (.slice A1 n1 c1)) ⟨r, 1, none⟩ (.slice A2 n2 c2'))).same (Keep.setCell ((w9.setCell ⟨r, 0, none⟩ (.slice A1 n1 c1)).setCell ⟨r, 1, none⟩ (.slice A2 n2 c2')) ⟨r, 2, none⟩ (.slice A3 n3 c3))
  have hno : ∀ b ∈ [r], NoI w9 b := by
    intro b hb
    rw [List.mem_singleton.1 hb]
    exact (R_r.ext hx9).noI
  obtain ⟨fs, hu⟩ := u60
  exact bodyPost_ret (results_cell_row (p := 6) (ty := 60) rfl _ _ r _ _ (0, 0) _ rfl hRf hu rfl i60) rfl ⟨_, rfl, ⟨_, _, _, _, _, _, rfl, (hn_15.ext hx9).keep hK hno, (hn_16.ext hx9).keep hK hno, hv9.keep hK hno, hRR⟩, Ext.keep_ (hx.trans hx9) hK (by simpa using bs_r)⟩
end Go.Proofs.Ytndohjgfjbopnaa
