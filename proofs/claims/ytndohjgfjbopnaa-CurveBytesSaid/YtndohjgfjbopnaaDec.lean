/-
  The curve's points: the point of 32 bytes.
-/
import Derived.Test.YtndohjgfjbopnaaTms
import Derived.Test.YtndohjgfjbopnaaRefT
set_option linter.unusedSimpArgs false
set_option linter.unusedVariables false
namespace Go.Cv
open Go.RowKit Go.Cv.Pr Go.Cv.Grp
/-- The 32 bytes without the highest bit; the number that they tell; the square of x. -/
def decG (b : Nat → UInt8) : Nat → UInt8 := updb b 31 (b 31 &&& 127)
def decY (b : Nat → UInt8) : F7 := tf (V (decG b))
def decU (y : F7) : F7 := (y * y - 1) * fiv (C7.d * (y * y) + 1)
/-- x of 32 bytes, where they are a point's. -/
def decX (b : Nat → UInt8) : Option F7 :=
  if V (decG b) < pp then (if okF (decU (decY b)) = true then (if (b 31 >>> 7 == 1) = true then (if rtF (decU (decY b)) = 0 then none else some (0 - rtF (decU (decY b)))) else some (rtF (decU (decY b)))) else none) else none
theorem low_p (f : Nat → UInt8) : beqb (fb (tf (V f))) f = decide (V f < pp) := by
  have hp : (pp : Nat) < 2 ^ 256 := by unfold pp; decide
  have h0 : 0 < pp := by unfold pp; decide
  have hf : V (nb (V f % pp)) = V f % pp := V_nb (Nat.lt_trans (Nat.mod_lt _ h0) hp)
  show beqb (nb (V f % pp)) f = _
  generalize pp = L at *
  by_cases h : V f < L
  · rw [decide_eq_true h, Nat.mod_eq_of_lt h, beqb_iff]
    exact nb_Vt f
  · rw [decide_eq_false h, Bool.eq_false_iff]
    intro h2
    rw [beqb_iff] at h2
    have h3 : V (nb (V f % L)) = V f := bsum_congr 32 h2
    rw [hf] at h3
    have := Nat.mod_lt (V f) h0
    omega
theorem pc_low {f k : Nat → UInt8} (h : V f < pp) : pc k f = pc k (fb (tf (V f))) := by
  have h1 := low_p f
  rw [decide_eq_true h] at h1
  rw [pc_eq, pc_eq, beqb_bcells h1]
theorem rtOk_tf (a : Nat) : rtOk a = okF (tf a) := by
  have e : Eqp (tf a).val a := by
    show a % pp % (2 ^ 255 - 19) = a % (2 ^ 255 - 19)
    exact Nat.mod_mod _ _
  unfold okF
  cases h1 : rtOk a
  · cases h2 : rtOk (tf a).val
    · rfl
    · exfalso
      have h3 : Eqp (rtc (tf a).val * rtc (tf a).val) (tf a).val := of_decide_eq_true h2
      have h4 := rtOk_sq (h3.trans e)
      rw [h1] at h4; cases h4
  · have h3 : Eqp (rtc a * rtc a) a := of_decide_eq_true h1
    exact (rtOk_sq (h3.trans e.symm)).symm
theorem rtv_tf {a : Nat} (h : rtOk a = true) : tf (rtv a) = rtF (tf a) := by
  have h1 : Eqp (rtc a * rtc a) a := of_decide_eq_true h
  refine (rtF_is ?_ (rtv_even a)).symm
  have h2 := h1.tf
  rw [tf_mul] at h2
  rcases rtv_two h1 with h3 | h3
  · rw [h3.tf, h2]
  · have h4 := h3.tf
    rw [tf_add, tf_zero] at h4
    rw [← neg_sq _ _ h4] at h2
    exact h2
end Go.Cv
namespace Go.Proofs.Ytndohjgfjbopnaa
open Go.RowKit Go.Cv Go.Cv.Pr Go.Cv.Grp
/-- What Decode answers. -/
noncomputable def decV (d : Option F7) (y : F7) : Array Value := match d with | none => #[.agg (pc (fun _ => 0) (fun _ => 0)), errPoint] | some x => #[.agg (pc (fb x) (fb y)), .nilIface]
theorem decV_none (y : F7) : decV none y = #[.agg (pc (fun _ => 0) (fun _ => 0)), errPoint] := rfl
theorem decV_some (x y : F7) : decV (some x) y = #[.agg (pc (fb x) (fb y)), .nilIface] := rfl
/-- The root, where there is one. -/
def isR (u : Value) (ok : Bool) (R : F7) : Prop := ∃ X, isE u X ∧ (ok = true → X = R)
def isRt (u : Value) (ok : Bool) (R : F7) : Prop := ∃ r, u = .tuple #[r, .bool ok] ∧ isR r ok R
theorem RV.isR {w : World} {n : Nat} {T : TypeId} {ok : Bool} {R : F7} (h : RV w n T (fun u => isR u ok R)) : ∃ X, RV w n T (fun u => isE u X) ∧ (ok = true → X = R) := by
  obtain ⟨cs, h1, X, h2, h3⟩ := h
  exact ⟨X, ⟨cs, h1, h2⟩, h3⟩
theorem eroot {u : Value} {x : F7} (hu : isE u x) (w : World) :
    Calls Try.prog 64 #[u] w fun e w' => ∃ r, e = .returned r ∧ isRt r (okF x) (rtF x) ∧ Ext w w' := by
  obtain ⟨a, b, c, d, rfl, rfl⟩ := hu
  refine (root_any a b c d w).mono ?_
  rintro e w' ⟨s0, s1, s2, s3, rfl, hs, hx⟩
  refine ⟨_, rfl, ⟨_, by rw [← rtOk_tf], ⟨_, ⟨s0, s1, s2, s3, rfl, rfl⟩, fun h => ?_⟩⟩, hx⟩
  rw [← rtOk_tf] at h
  rw [(rtv_is h hs).tf, rtv_tf h]
def plan_52_0 : List Plan := [⟨[], []⟩, ⟨[], []⟩, ⟨[], []⟩]
def plan_52_3 : List Plan := [⟨[], []⟩, ⟨[0], [(16, 0)]⟩, ⟨[], []⟩, ⟨[0, 1, 2], [(17, 1), (18, 2)]⟩]
def plan_52_4 : List Plan := [⟨[], []⟩, ⟨[], []⟩, ⟨[0], [(20, 0)]⟩, ⟨[0, 1, 2], [(21, 1)]⟩]
def plan_52_5 : List Plan := [⟨[], []⟩, ⟨[0], [(22, 0)]⟩, ⟨[], []⟩, ⟨[0, 1, 2], [(23, 1), (5, 2)]⟩]
def plan_52_6 : List Plan := [⟨[], []⟩, ⟨[], []⟩, ⟨[0, 1], [(24, 0), (25, 1)]⟩, ⟨[0, 1, 2], [(26, 2)]⟩]
def plan_52_7 : List Plan := [⟨[], []⟩, ⟨[], []⟩, ⟨[0, 1], [(28, 0), (29, 1)]⟩, ⟨[0, 1, 2], []⟩, ⟨[], []⟩, ⟨[0, 1, 2, 3, 4], [(31, 3), (32, 4)]⟩, ⟨[], []⟩, ⟨[0, 1, 2, 3, 4, 5, 6], [(33, 5), (34, 6)]⟩, ⟨[0, 1, 2, 3, 4, 5, 6, 7], [(35, 7)]⟩, ⟨[0, 1, 2, 3, 4, 5, 6, 7, 8], [(30, 2), (36, 8)]⟩, ⟨[0, 1, 2, 3, 4, 5, 6, 7, 8, 9], [(37, 9)]⟩, ⟨[0, 1, 2, 3, 4, 5, 6, 7, 8, 9, 10], [(38, 10)]⟩, ⟨[0, 1, 2, 3, 4, 5, 6, 7, 8, 9, 10, 11], [(27, 11)]⟩, ⟨[0, 1, 2, 3, 4, 5, 6, 7, 8, 9, 10, 11], [(27, 11)]⟩, ⟨[], []⟩, ⟨[0, 1, 2, 3, 4, 5, 6, 7, 8, 9, 10, 11, 12, 14], [(39, 12), (6, 14)]⟩, ⟨[0, 1, 2, 3, 4, 5, 6, 7, 8, 9, 10, 11, 12, 13, 14, 15], [(40, 13)]⟩]
def plan_52_8 : List Plan := [⟨[], []⟩, ⟨[0], [(41, 0)]⟩, ⟨[], []⟩, ⟨[0, 1, 2], [(42, 1), (8, 2)]⟩]
def plan_52_10 : List Plan := [⟨[], []⟩, ⟨[], []⟩, ⟨[0], [(55, 0)]⟩, ⟨[0, 1, 2], [(56, 1)]⟩]
def plan_52_12 : List Plan := [⟨[], []⟩, ⟨[], []⟩, ⟨[0, 1], [(60, 0), (61, 1)]⟩, ⟨[0, 1, 2], [(62, 2)]⟩]
def plan_52_13 : List Plan := [⟨[], []⟩, ⟨[], []⟩, ⟨[0, 1], [(63, 0), (64, 1)]⟩, ⟨[0, 1, 2], [(65, 2)]⟩, ⟨[0, 1, 2, 3], []⟩]
set_option maxRecDepth 20000 in
set_option maxHeartbeats 8000000 in
theorem cdec_any (b : Nat → UInt8) (w : World) :
    Calls Try.prog 52 #[.agg (bcells b)] w fun e w' => e = .returned (.tuple (decV (decX b) (decY b))) ∧ Ext w w' := by
  have hG := low_p (decG b)
  obtain ⟨g, hg⟩ : ∃ g, g = decG b := ⟨_, rfl⟩
  obtain ⟨y, hy⟩ : ∃ y, y = decY b := ⟨_, rfl⟩
  obtain ⟨o, ho⟩ : ∃ o, o = b 31 >>> 7 := ⟨_, rfl⟩
  obtain ⟨U, hU⟩ : ∃ U, U = decU y := ⟨_, rfl⟩
  have hyg : y = tf (V g) := by rw [hy, hg]; rfl
  obtain ⟨d, hd⟩ : ∃ d, d = decX b := ⟨_, rfl⟩
  rw [← hd, ← hy]
  unfold decX at hd
  rw [← hg, ← hy, ← hU, ← ho] at hd
  rw [← hg] at hG
  have hg' : g = updb b 31 (b 31 &&& 127) := hg
  have hU' : U = (y * y - 1) * fiv (C7.d * (y * y) + 1) := hU
  clear hg hU hy
  replace hg' := Lib.hid hg'
  replace hU' := Lib.hid hU'
  replace hd := Lib.hid hd
  replace ho := Lib.hid ho
  replace hyg := Lib.hid hyg
  replace hG := Lib.hid hG
  go_enter Try.func52, Try.ntmps52
  have hx : Ext w w := Ext.refl w
  go_upto_region 0 with fail
  have hok : TrsOk [] w.heap.size ([⟨some 0, 0, 22, none, fun cs => (Value.agg (List.toArray cs)) = .agg (bcells (b)), fun _ => True⟩, ⟨some 1, 0, 43, none, fun cs => cs.length = 64, fun _ => True⟩] : List Trk) := ⟨by simp, by simp, by simp, by simp⟩
  refine wp_region_text (Inv [] (fun j u => match j with | 2 => u = .nilIface | _ => True) [⟨some 0, 0, 22, none, fun cs => (Value.agg (List.toArray cs)) = .agg (bcells (b)), fun _ => True⟩, ⟨some 1, 0, 43, none, fun cs => cs.length = 64, fun _ => True⟩] w) plan_52_0 [(1, 0), (2, 1), (3, 2)] 66 rfl (by kernel_rfl) (Inv.start0 hok (by simp)) ⟨?_, ?_, ?_, trivial⟩ ?_
  · intro L v w hL hD hC hI
    refine ⟨fun _ => ?_, fun hw => by cases hw⟩
    refine Inv.alloc_step hok hI hL ⟨some 0, 0, 22, none, fun cs => (Value.agg (List.toArray cs)) = .agg (bcells (b)), fun _ => True⟩ (by simp) rfl (by simp) (by intro s hs; cases hs) ?_
    rw [show readsOf plan_52_0 0 = [] from rfl]
    exact ⟨trivial, rfl, (bcells b).toList, by first | rfl | (rw [Array.toArray_toList]; rfl), by show (Value.agg _ = Value.agg _); rw [Array.toArray_toList]⟩
  · intro L v w hL hD hC hI
    refine ⟨fun _ => ?_, fun hw => by cases hw⟩
    refine Inv.alloc_step hok hI hL ⟨some 1, 0, 43, none, fun cs => cs.length = 64, fun _ => True⟩ (by simp) rfl (by simp) (by intro s hs; cases hs) ?_
    rw [show readsOf plan_52_0 1 = [] from rfl]
    go_simp
    first | exact ⟨rfl, _, rfl, by first | rfl | trivial⟩ | exact ⟨trivial, rfl, _, rfl, by first | rfl | trivial⟩ | exact ⟨rfl, pcL (fun _ => 0) (fun _ => 0), rfl, pcL_len _ _⟩ | exact ⟨trivial, rfl, pcL (fun _ => 0) (fun _ => 0), rfl, pcL_len _ _⟩ | exact ⟨rfl, (bcells fun _ => 0).toList, by rw [Array.toArray_toList], by simp⟩ | exact ⟨trivial, rfl, (bcells fun _ => 0).toList, by rw [Array.toArray_toList], by simp⟩
  · intro L v w hL hD hC hI
    refine ⟨fun _ => ?_, fun hw => by cases hw⟩
    refine hI.val_step hL (by simp) ?_
    rw [show readsOf plan_52_0 2 = [] from rfl]
    first | exact ⟨rfl, Ext.refl _⟩ | (go_simp; exact ⟨rfl, Ext.refl _⟩)
  intro L v1 W1 hL hI
  obtain ⟨n1, cs, hb_n1, lo_n1, hr, hn, ho⟩ := hI.row_made ⟨some 0, 0, 22, none, fun cs => (Value.agg (List.toArray cs)) = .agg (bcells (b)), fun _ => True⟩ (by simp) 0 rfl (hL 0 (by decide))
  have R_n1 : RV W1 n1 22 (fun u => u = .agg (bcells (b))) := ⟨cs, hr, ho (by intro s hs; cases hs)⟩
  clear hr hn ho
  obtain ⟨r, cs, hb_r, lo_r, hr, hn, ho⟩ := hI.row_made ⟨some 1, 0, 43, none, fun cs => cs.length = 64, fun _ => True⟩ (by simp) 1 rfl (hL 1 (by decide))
  have R_r : RL W1 r 43 64 := ⟨cs, hr, ho (by intro s hs; cases hs)⟩
  clear hr hn ho
  have ne_n1_r : n1 ≠ r := fun e => hI.apart ⟨some 0, 0, 22, none, fun cs => (Value.agg (List.toArray cs)) = .agg (bcells (b)), fun _ => True⟩ (by simp) ⟨some 1, 0, 43, none, fun cs => cs.length = 64, fun _ => True⟩ (by simp) 0 1 rfl rfl (by decide) (hL 0 (by decide)) (hL 1 (by decide)) (by rw [hb_n1, hb_r, e])
  have hx' : Ext w W1 := hx.trans hI.keep.to_ext
  have lt_n1 : n1 < W1.heap.size := R_n1.lt
  have bs_n1 : w.heap.size ≤ n1 := Nat.le_trans hx.size lo_n1
  have lt_r : r < W1.heap.size := R_r.lt
  have bs_r : w.heap.size ≤ r := Nat.le_trans hx.size lo_r
  have hs_3_0 : (v1 2) = .nilIface := hI.val 2 (hL 2 (by decide))
  clear hx hI hL hok L
  have hx := hx'
  clear hx'
  simp only [putP, Act.put, List.setIfInBounds_toArray, List.set_cons_zero, List.set_cons_succ, hb_n1, hb_r, hs_3_0]
  have e1 := R_n1.byte (i := 31) (by decide)
  have e3 := R_n1.fro 31
  go_upto_region 3 with fail
  obtain ⟨W4, hW4⟩ : ∃ W4, W4 = W1.setCell ⟨n1, 31, none⟩ (.int .u8 (n8 (b 31 &&& 127))) := ⟨_, rfl⟩
  rw [← hW4]
  have hk : Keep [n1] W1 W4 := by rw [hW4]; exact Keep.setCell _ ⟨n1, 31, none⟩ _
  have R5 := R_n1.set 31 (b 31 &&& 127)
  rw [← hW4, ← hg'.out] at R5
  clear R_n1 e1 e3
  have R_n1 : RV W4 n1 22 (fun u => u = .agg (bcells g)) := R5
  clear R5
  replace R_r := R_r.keep hk (by simp [ne_n1_r, Ne.symm ne_n1_r])
  replace hx := Ext.keep_ hx hk (by simpa using bs_n1)
  clear hW4
  replace lt_n1 := Nat.lt_of_lt_of_le lt_n1 hk.size
  replace lt_r := Nat.lt_of_lt_of_le lt_r hk.size
  clear hk
  rw [← ho.out]
  have hok : TrsOk [] W4.heap.size ([] : List Trk) := ⟨by simp, by simp, by simp, by simp⟩
  refine wp_region_plan (Inv [] (fun j u => match j with | 0 => u = .agg (bcells (g)) | 1 => u = .agg (bcells (fb (tf (V (g))))) | 2 => u = .agg (bcells (g)) | 3 => u = .bool (!beqb (fb (tf (V (g)))) (g)) | _ => True) [] W4) plan_52_3 [(16, 0), (17, 1), (18, 2), (19, 3)] 66 (by kernel_rfl) rfl (by kernel_rfl) (Inv.start hok (by simp)) ⟨?_, ?_, ?_, ?_, trivial⟩ ?_
  · intro L v w hL hD hC hI
    refine ⟨fun _ => ?_, fun hw => by cases hw⟩
    refine hI.val_step hL (by simp) ?_
    rw [show readsOf plan_52_3 0 = [] from rfl]
    exact ld_B (R_n1.keep hI.keep (by simp)) _ rfl rfl fun u hu => ⟨hu, Ext.refl _⟩
  · intro L v w hL hD hC hI
    refine ⟨fun _ => ?_, fun hw => by cases hw⟩
    have h0 : (v 0) = .agg (bcells (g)) := hI.val 0 (hD 0 (by decide))
    refine hI.val_step hL (by simp) ?_
    rw [show readsOf plan_52_3 1 = [(16, 0)] from rfl]
    refine give_call _ _ _ _ rfl rfl Try.func27 (by kernel_rfl) (by kernel_rfl) ?_
    refine Calls.mono (by have := reduceF (g) w; rwa [← h0] at this) ?_
    rintro e w' ⟨rfl, hx⟩
    exact ⟨_, rfl, rfl, hx⟩
  · intro L v w hL hD hC hI
    refine ⟨fun _ => ?_, fun hw => by cases hw⟩
    refine hI.val_step hL (by simp) ?_
    rw [show readsOf plan_52_3 2 = [] from rfl]
    exact ld_B (R_n1.keep hI.keep (by simp)) _ rfl rfl fun u hu => ⟨hu, Ext.refl _⟩
  · intro L v w hL hD hC hI
    refine ⟨fun _ => ?_, fun hw => by cases hw⟩
    have h1 : (v 1) = .agg (bcells (fb (tf (V (g))))) := hI.val 1 (hD 1 (by decide))
    have h2 : (v 2) = .agg (bcells (g)) := hI.val 2 (hD 2 (by decide))
    refine hI.val_step hL (by simp) ?_
    rw [show readsOf plan_52_3 3 = [(17, 1), (18, 2)] from rfl]
    simp only [putP, Act.put, List.setIfInBounds_toArray, List.set_cons_zero, List.set_cons_succ, h1, h2]
    go_simp
    exact ⟨rfl, Ext.refl _⟩
  intro L v2 W2 hL hI
  replace R_n1 := R_n1.keep hI.keep (by simp)
  replace R_r := R_r.keep hI.keep (by simp)
  replace lt_n1 := Nat.lt_of_lt_of_le lt_n1 hI.keep.size
  replace lt_r := Nat.lt_of_lt_of_le lt_r hI.keep.size
  have hx' : Ext w W2 := hx.trans hI.keep.to_ext
  have hs_19_3 : (v2 3) = .bool (!beqb (fb (tf (V (g)))) (g)) := hI.val 3 (hL 3 (by decide))
  clear hx hI hL hok L
  have hx := hx'
  clear hx'
  simp only [putP, Act.put, List.setIfInBounds_toArray, List.set_cons_zero, List.set_cons_succ, hs_19_3]
  rw [hG.out]
  clear hs_19_3
  by_cases hlt : V g < pp
  rotate_left
  · skip
    have hdd : Hid (d = none) := Lib.hid (by rw [hd.out, if_neg hlt])
    rw [decide_eq_false hlt]
    go_upto_region 4 with fail
    have hok : TrsOk [r] W2.heap.size ([⟨none, r, 43, some 2, fun cs => cs.length = 64, fun cs => (Value.agg (List.toArray cs)) = .agg (pc (fun _ => 0) (fun _ => 0))⟩] : List Trk) := ⟨by simp [R_r.lt], by simp, by simp, by simp⟩
    refine wp_region_text (Inv [r] (fun j u => match j with | 0 => u = .agg (pc (fun _ => 0) (fun _ => 0)) | 1 => u = .iface 30 (.int .i64 29) | 3 => u = .iface 30 (.int .i64 29) | _ => True) [⟨none, r, 43, some 2, fun cs => cs.length = 64, fun cs => (Value.agg (List.toArray cs)) = .agg (pc (fun _ => 0) (fun _ => 0))⟩] W2) plan_52_4 [(20, 0), (21, 1), (3, 3)] 66 rfl (by kernel_rfl) (Inv.start0 hok (by
        simp only [List.forall_mem_cons, List.not_mem_nil, false_implies, implies_true, and_true]
        exact fun _ => R_r)) ⟨?_, ?_, ?_, ?_, trivial⟩ ?_
    · intro L v w hL hD hC hI
      refine ⟨fun _ => ?_, fun hw => by cases hw⟩
      refine hI.val_step hL (by simp) ?_
      rw [show readsOf plan_52_4 0 = [] from rfl]
      exact give_zeroP rfl ⟨rfl, Ext.refl _⟩
    · intro L v w hL hD hC hI
      refine ⟨fun _ => ?_, fun hw => by cases hw⟩
      refine hI.val_step hL (by simp) ?_
      rw [show readsOf plan_52_4 1 = [] from rfl]
      go_simp
      exact ⟨rfl, Ext.refl _⟩
    · intro L v w hL hD hC hI
      refine ⟨fun _ => ?_, fun hw => by cases hw⟩
      have h0 : (v 0) = .agg (pc (fun _ => 0) (fun _ => 0)) := hI.val 0 (hD 0 (by decide))
      refine Inv.store_step hok hI hL ⟨none, r, 43, some 2, fun cs => cs.length = 64, fun cs => (Value.agg (List.toArray cs)) = .agg (pc (fun _ => 0) (fun _ => 0))⟩ (by simp) rfl (by simp) (by intro k hk; cases hk) ?_
      intro n cs hb hR hold
      change n = r at hb
      subst hb
      rw [show readsOf plan_52_4 2 = [(20, 0)] from rfl]
      exact st_P hR hold _ _ rfl rfl h0 fun w' cs' hr he hk => ⟨trivial, hk, cs', hr, he⟩
    · intro L v w hL hD hC hI
      refine ⟨fun _ => ?_, fun hw => by cases hw⟩
      have h1 : (v 1) = .iface 30 (.int .i64 29) := hI.val 1 (hD 1 (by decide))
      refine hI.val_step hL (by simp) ?_
      rw [show readsOf plan_52_4 3 = [(21, 1)] from rfl]
      exact ⟨h1, Ext.refl _⟩
    intro L v3 W3 hL hI
    have N_r : RV W3 r 43 (fun u => u = .agg (pc (fun _ => 0) (fun _ => 0))) := hI.row_new ⟨none, r, 43, some 2, fun cs => cs.length = 64, fun cs => (Value.agg (List.toArray cs)) = .agg (pc (fun _ => 0) (fun _ => 0))⟩ (by simp) rfl 2 rfl (hL 2 (by decide))
    replace R_n1 := R_n1.keep hI.keep (by simp [ne_n1_r, Ne.symm ne_n1_r])
    clear R_r
    have R_r := N_r
    clear N_r
    replace lt_n1 := Nat.lt_of_lt_of_le lt_n1 hI.keep.size
    replace lt_r := Nat.lt_of_lt_of_le lt_r hI.keep.size
    have hx' : Ext w W3 := Ext.keep_ hx hI.keep (by simp only [List.forall_mem_cons, List.not_mem_nil, false_implies, implies_true, and_true]; exact bs_r)
    have hs_3_4 : (v3 3) = .iface 30 (.int .i64 29) := hI.val 3 (hL 3 (by decide))
    clear hx hI hL hok L
    have hx := hx'
    clear hx'
    simp only [putP, Act.put, List.setIfInBounds_toArray, List.set_cons_zero, List.set_cons_succ, hs_3_4]
    go_wp2
    refine bodyPost_ret (results_P2 rfl _ R_r rfl) rfl ?_
    refine ⟨?_, hx⟩
    rw [hdd.out, decV_none]
    rfl
  · have hdl := hd.out
    rw [if_pos hlt] at hdl
    replace hd := Lib.hid hdl
    clear hdl
    rw [decide_eq_true hlt]
    go_upto_region 5 with fail
    have hok : TrsOk [] W2.heap.size ([⟨some 2, 0, 73, some 3, fun cs => cs.length = 4, fun cs => isE (Value.agg (List.toArray cs)) (y)⟩] : List Trk) := ⟨by simp, by simp, by simp, by simp⟩
    refine wp_region_text (Inv [] (fun j u => match j with | 0 => u = .agg (bcells (g)) | 1 => isE u (y) | _ => True) [⟨some 2, 0, 73, some 3, fun cs => cs.length = 4, fun cs => isE (Value.agg (List.toArray cs)) (y)⟩] W2) plan_52_5 [(22, 0), (23, 1), (5, 2)] 66 rfl (by kernel_rfl) (Inv.start0 hok (by simp)) ⟨?_, ?_, ?_, ?_, trivial⟩ ?_
    · intro L v w hL hD hC hI
      refine ⟨fun _ => ?_, fun hw => by cases hw⟩
      refine hI.val_step hL (by simp) ?_
      rw [show readsOf plan_52_5 0 = [] from rfl]
      exact ld_B (R_n1.keep hI.keep (by simp)) _ rfl rfl fun u hu => ⟨hu, Ext.refl _⟩
    · intro L v w hL hD hC hI
      refine ⟨fun _ => ?_, fun hw => by cases hw⟩
      have h0 : (v 0) = .agg (bcells (g)) := hI.val 0 (hD 0 (by decide))
      refine hI.val_step hL (by simp) ?_
      rw [show readsOf plan_52_5 1 = [(22, 0)] from rfl]
      refine give_call _ _ _ _ rfl rfl Try.func71 (by kernel_rfl) (by kernel_rfl) ?_
      refine Calls.mono (by have := ein g w; rwa [← h0, ← hyg.out] at this) ?_
      rintro e w' ⟨r, rfl, hr, hx⟩
      exact ⟨r, rfl, hr, hx⟩
    · intro L v w hL hD hC hI
      refine ⟨fun _ => ?_, fun hw => by cases hw⟩
      refine Inv.alloc_step hok hI hL ⟨some 2, 0, 73, some 3, fun cs => cs.length = 4, fun cs => isE (Value.agg (List.toArray cs)) (y)⟩ (by simp) rfl (by simp) (by intro s hs; cases hs; exact not_yet hC hL (by decide)) ?_
      rw [show readsOf plan_52_5 2 = [] from rfl]
      go_simp
      first | exact ⟨rfl, _, rfl, by first | rfl | trivial⟩ | exact ⟨trivial, rfl, _, rfl, by first | rfl | trivial⟩ | exact ⟨rfl, pcL (fun _ => 0) (fun _ => 0), rfl, pcL_len _ _⟩ | exact ⟨trivial, rfl, pcL (fun _ => 0) (fun _ => 0), rfl, pcL_len _ _⟩ | exact ⟨rfl, (bcells fun _ => 0).toList, by rw [Array.toArray_toList], by simp⟩ | exact ⟨trivial, rfl, (bcells fun _ => 0).toList, by rw [Array.toArray_toList], by simp⟩
    · intro L v w hL hD hC hI
      refine ⟨fun _ => ?_, fun hw => by cases hw⟩
      have h1 : isE (v 1) (y) := hI.val 1 (hD 1 (by decide))
      refine Inv.store_step hok hI hL ⟨some 2, 0, 73, some 3, fun cs => cs.length = 4, fun cs => isE (Value.agg (List.toArray cs)) (y)⟩ (by simp) rfl (by simp) (by intro k hk; cases hk; exact hD 2 (by decide)) ?_
      intro n cs hb hR hold
      change v 2 = .pointer (some ⟨n, 0, none⟩) at hb
      rw [show readsOf plan_52_5 3 = [(23, 1), (5, 2)] from rfl]
      exact st_E hR hold _ _ rfl hb h1 fun w' cs' hr he hk => ⟨trivial, hk, cs', hr, he⟩
    intro L v3 W3 hL hI
    obtain ⟨y5, cs, hb_y5, lo_y5, hr, hn, ho⟩ := hI.row_made ⟨some 2, 0, 73, some 3, fun cs => cs.length = 4, fun cs => isE (Value.agg (List.toArray cs)) (y)⟩ (by simp) 2 rfl (hL 2 (by decide))
    have R_y5 : RV W3 y5 73 (fun u => isE u (y)) := ⟨cs, hr, hn 3 rfl (hL 3 (by decide))⟩
    clear hr hn ho
    replace R_n1 := R_n1.keep hI.keep (by simp)
    replace R_r := R_r.keep hI.keep (by simp)
    have ne_n1_y5 : n1 ≠ y5 := Nat.ne_of_lt (Nat.lt_of_lt_of_le lt_n1 lo_y5)
    have ne_r_y5 : r ≠ y5 := Nat.ne_of_lt (Nat.lt_of_lt_of_le lt_r lo_y5)
    replace lt_n1 := Nat.lt_of_lt_of_le lt_n1 hI.keep.size
    replace lt_r := Nat.lt_of_lt_of_le lt_r hI.keep.size
    have hx' : Ext w W3 := hx.trans hI.keep.to_ext
    have lt_y5 : y5 < W3.heap.size := R_y5.lt
    have bs_y5 : w.heap.size ≤ y5 := Nat.le_trans hx.size lo_y5
    clear hx hI hL hok L
    have hx := hx'
    clear hx'
    simp only [putP, Act.put, List.setIfInBounds_toArray, List.set_cons_zero, List.set_cons_succ, hb_y5]
    go_upto_region 6 with fail
    have hok : TrsOk [y5] W3.heap.size ([⟨none, y5, 73, some 3, fun cs => isE (Value.agg (List.toArray cs)) (y), fun cs => isE (Value.agg (List.toArray cs)) ((y) * (y))⟩] : List Trk) := ⟨by simp [R_y5.lt], by simp, by simp, by simp⟩
    refine wp_region_text (Inv [y5] (fun j u => match j with | 0 => isE u (y) | 1 => isE u (y) | 2 => isE u ((y) * (y)) | _ => True) [⟨none, y5, 73, some 3, fun cs => isE (Value.agg (List.toArray cs)) (y), fun cs => isE (Value.agg (List.toArray cs)) ((y) * (y))⟩] W3) plan_52_6 [(24, 0), (25, 1), (26, 2)] 66 rfl (by kernel_rfl) (Inv.start0 hok (by
        simp only [List.forall_mem_cons, List.not_mem_nil, false_implies, implies_true, and_true]
        exact fun _ => R_y5)) ⟨?_, ?_, ?_, ?_, trivial⟩ ?_
    · intro L v w hL hD hC hI
      refine ⟨fun _ => ?_, fun hw => by cases hw⟩
      refine hI.val_step hL (by simp) ?_
      rw [show readsOf plan_52_6 0 = [] from rfl]
      exact ld_E (hI.row_old ⟨none, y5, 73, some 3, fun cs => isE (Value.agg (List.toArray cs)) (y), fun cs => isE (Value.agg (List.toArray cs)) ((y) * (y))⟩ (by simp) rfl (by intro s hs; cases hs; exact not_yet hC hL (by decide))) _ rfl rfl fun u hu => ⟨hu, Ext.refl _⟩
    · intro L v w hL hD hC hI
      refine ⟨fun _ => ?_, fun hw => by cases hw⟩
      refine hI.val_step hL (by simp) ?_
      rw [show readsOf plan_52_6 1 = [] from rfl]
      exact ld_E (hI.row_old ⟨none, y5, 73, some 3, fun cs => isE (Value.agg (List.toArray cs)) (y), fun cs => isE (Value.agg (List.toArray cs)) ((y) * (y))⟩ (by simp) rfl (by intro s hs; cases hs; exact not_yet hC hL (by decide))) _ rfl rfl fun u hu => ⟨hu, Ext.refl _⟩
    · intro L v w hL hD hC hI
      refine ⟨fun _ => ?_, fun hw => by cases hw⟩
      have h0 : isE (v 0) (y) := hI.val 0 (hD 0 (by decide))
      have h1 : isE (v 1) (y) := hI.val 1 (hD 1 (by decide))
      refine hI.val_step hL (by simp) ?_
      rw [show readsOf plan_52_6 2 = [(24, 0), (25, 1)] from rfl]
      refine give_call _ _ _ _ rfl rfl Try.func70 (by kernel_rfl) (by kernel_rfl) ?_
      refine Calls.mono (emul h0 h1 w) ?_
      rintro e w' ⟨r, rfl, hr, hx⟩
      exact ⟨r, rfl, hr, hx⟩
    · intro L v w hL hD hC hI
      refine ⟨fun _ => ?_, fun hw => by cases hw⟩
      have h2 : isE (v 2) ((y) * (y)) := hI.val 2 (hD 2 (by decide))
      refine Inv.store_step hok hI hL ⟨none, y5, 73, some 3, fun cs => isE (Value.agg (List.toArray cs)) (y), fun cs => isE (Value.agg (List.toArray cs)) ((y) * (y))⟩ (by simp) rfl (by simp) (by intro k hk; cases hk) ?_
      intro n cs hb hR hold
      change n = y5 at hb
      subst hb
      rw [show readsOf plan_52_6 3 = [(26, 2)] from rfl]
      exact st_E hR (isE_len hold) _ _ rfl rfl h2 fun w' cs' hr he hk => ⟨trivial, hk, cs', hr, he⟩
    intro L v4 W4 hL hI
    have N_y5 : RV W4 y5 73 (fun u => isE u ((y) * (y))) := hI.row_new ⟨none, y5, 73, some 3, fun cs => isE (Value.agg (List.toArray cs)) (y), fun cs => isE (Value.agg (List.toArray cs)) ((y) * (y))⟩ (by simp) rfl 3 rfl (hL 3 (by decide))
    replace R_n1 := R_n1.keep hI.keep (by simp [ne_n1_y5, Ne.symm ne_n1_y5])
    replace R_r := R_r.keep hI.keep (by simp [ne_r_y5, Ne.symm ne_r_y5])
    clear R_y5
    have R_y5 := N_y5
    clear N_y5
    replace lt_n1 := Nat.lt_of_lt_of_le lt_n1 hI.keep.size
    replace lt_r := Nat.lt_of_lt_of_le lt_r hI.keep.size
    replace lt_y5 := Nat.lt_of_lt_of_le lt_y5 hI.keep.size
    have hx' : Ext w W4 := Ext.keep_ hx hI.keep (by simp only [List.forall_mem_cons, List.not_mem_nil, false_implies, implies_true, and_true]; exact bs_y5)
    clear hx hI hL hok L
    have hx := hx'
    clear hx'
    simp only [putP, Act.put, List.setIfInBounds_toArray, List.set_cons_zero, List.set_cons_succ]
    go_upto_region 7 with fail
    have hok : TrsOk [] W4.heap.size ([⟨some 14, 0, 73, some 15, fun cs => cs.length = 4, fun cs => isR (Value.agg (List.toArray cs)) (okF U) (rtF U)⟩] : List Trk) := ⟨by simp, by simp, by simp, by simp⟩
    refine wp_region_plan (Inv [] (fun j u => match j with | 0 => isE u ((y) * (y)) | 1 => isE u (1) | 2 => isE u (((y) * (y)) - (1)) | 3 => isE u (C7.d) | 4 => isE u ((y) * (y)) | 5 => isE u ((C7.d) * ((y) * (y))) | 6 => isE u (1) | 7 => isE u (((C7.d) * ((y) * (y))) + (1)) | 8 => isE u (fiv (((C7.d) * ((y) * (y))) + (1))) | 9 => isE u ((((y) * (y)) - (1)) * (fiv (((C7.d) * ((y) * (y))) + (1)))) | 10 => isRt u (okF U) (rtF U) | 11 => isRt u (okF U) (rtF U) | 12 => isR u (okF U) (rtF U) | 13 => u = .bool (okF U) | 16 => u = .bool (okF U) | _ => True) [⟨some 14, 0, 73, some 15, fun cs => cs.length = 4, fun cs => isR (Value.agg (List.toArray cs)) (okF U) (rtF U)⟩] W4) plan_52_7 [(28, 0), (29, 1), (30, 2), (31, 3), (32, 4), (33, 5), (34, 6), (35, 7), (36, 8), (37, 9), (38, 10), (27, 11), (39, 12), (40, 13), (6, 14), (7, 16)] 66 (by kernel_rfl) rfl (by kernel_rfl) (Inv.start hok (by simp)) ⟨?_, ?_, ?_, ?_, ?_, ?_, ?_, ?_, ?_, ?_, ?_, ?_, ?_, ?_, ?_, ?_, ?_, trivial⟩ ?_
    · intro L v w hL hD hC hI
      refine ⟨fun _ => ?_, fun hw => by cases hw⟩
      refine hI.val_step hL (by simp) ?_
      rw [show readsOf plan_52_7 0 = [] from rfl]
      exact ld_E (R_y5.keep hI.keep (by simp)) _ rfl rfl fun u hu => ⟨hu, Ext.refl _⟩
    · intro L v w hL hD hC hI
      refine ⟨fun _ => ?_, fun hw => by cases hw⟩
      refine hI.val_step hL (by simp) ?_
      rw [show readsOf plan_52_7 1 = [] from rfl]
      go_simp
      exact ⟨isE_one, Ext.refl _⟩
    · intro L v w hL hD hC hI
      refine ⟨fun _ => ?_, fun hw => by cases hw⟩
      have h0 : isE (v 0) ((y) * (y)) := hI.val 0 (hD 0 (by decide))
      have h1 : isE (v 1) (1) := hI.val 1 (hD 1 (by decide))
      refine hI.val_step hL (by simp) ?_
      rw [show readsOf plan_52_7 2 = [(28, 0), (29, 1)] from rfl]
      refine give_call _ _ _ _ rfl rfl Try.func69 (by kernel_rfl) (by kernel_rfl) ?_
      refine Calls.mono (esub h0 h1 w) ?_
      rintro e w' ⟨r, rfl, hr, hx⟩
      exact ⟨r, rfl, hr, hx⟩
    · intro L v w hL hD hC hI
      refine ⟨fun _ => ?_, fun hw => by cases hw⟩
      refine hI.val_step hL (by simp) ?_
      rw [show readsOf plan_52_7 3 = [] from rfl]
      refine give_call _ _ _ _ rfl rfl Try.func72 (by kernel_rfl) (by kernel_rfl) ?_
      refine Calls.mono (d_any w) ?_
      rintro e w' ⟨r, rfl, hr, hx⟩
      exact ⟨r, rfl, hr, hx⟩
    · intro L v w hL hD hC hI
      refine ⟨fun _ => ?_, fun hw => by cases hw⟩
      refine hI.val_step hL (by simp) ?_
      rw [show readsOf plan_52_7 4 = [] from rfl]
      exact ld_E (R_y5.keep hI.keep (by simp)) _ rfl rfl fun u hu => ⟨hu, Ext.refl _⟩
    · intro L v w hL hD hC hI
      refine ⟨fun _ => ?_, fun hw => by cases hw⟩
      have h3 : isE (v 3) (C7.d) := hI.val 3 (hD 3 (by decide))
      have h4 : isE (v 4) ((y) * (y)) := hI.val 4 (hD 4 (by decide))
      refine hI.val_step hL (by simp) ?_
      rw [show readsOf plan_52_7 5 = [(31, 3), (32, 4)] from rfl]
      refine give_call _ _ _ _ rfl rfl Try.func70 (by kernel_rfl) (by kernel_rfl) ?_
      refine Calls.mono (emul h3 h4 w) ?_
      rintro e w' ⟨r, rfl, hr, hx⟩
      exact ⟨r, rfl, hr, hx⟩
    · intro L v w hL hD hC hI
      refine ⟨fun _ => ?_, fun hw => by cases hw⟩
      refine hI.val_step hL (by simp) ?_
      rw [show readsOf plan_52_7 6 = [] from rfl]
      go_simp
      exact ⟨isE_one, Ext.refl _⟩
    · intro L v w hL hD hC hI
      refine ⟨fun _ => ?_, fun hw => by cases hw⟩
      have h5 : isE (v 5) ((C7.d) * ((y) * (y))) := hI.val 5 (hD 5 (by decide))
      have h6 : isE (v 6) (1) := hI.val 6 (hD 6 (by decide))
      refine hI.val_step hL (by simp) ?_
      rw [show readsOf plan_52_7 7 = [(33, 5), (34, 6)] from rfl]
      refine give_call _ _ _ _ rfl rfl Try.func67 (by kernel_rfl) (by kernel_rfl) ?_
      refine Calls.mono (eadd h5 h6 w) ?_
      rintro e w' ⟨r, rfl, hr, hx⟩
      exact ⟨r, rfl, hr, hx⟩
    · intro L v w hL hD hC hI
      refine ⟨fun _ => ?_, fun hw => by cases hw⟩
      have h7 : isE (v 7) (((C7.d) * ((y) * (y))) + (1)) := hI.val 7 (hD 7 (by decide))
      refine hI.val_step hL (by simp) ?_
      rw [show readsOf plan_52_7 8 = [(35, 7)] from rfl]
      refine give_call _ _ _ _ rfl rfl Try.func58 (by kernel_rfl) (by kernel_rfl) ?_
      refine Calls.mono (einv h7 w) ?_
      rintro e w' ⟨r, rfl, hr, hx⟩
      exact ⟨r, rfl, hr, hx⟩
    · intro L v w hL hD hC hI
      refine ⟨fun _ => ?_, fun hw => by cases hw⟩
      have h2 : isE (v 2) (((y) * (y)) - (1)) := hI.val 2 (hD 2 (by decide))
      have h8 : isE (v 8) (fiv (((C7.d) * ((y) * (y))) + (1))) := hI.val 8 (hD 8 (by decide))
      refine hI.val_step hL (by simp) ?_
      rw [show readsOf plan_52_7 9 = [(30, 2), (36, 8)] from rfl]
      refine give_call _ _ _ _ rfl rfl Try.func70 (by kernel_rfl) (by kernel_rfl) ?_
      refine Calls.mono (emul h2 h8 w) ?_
      rintro e w' ⟨r, rfl, hr, hx⟩
      exact ⟨r, rfl, hr, hx⟩
    · intro L v w hL hD hC hI
      refine ⟨fun _ => ?_, fun hw => by cases hw⟩
      have h9 : isE (v 9) ((((y) * (y)) - (1)) * (fiv (((C7.d) * ((y) * (y))) + (1)))) := hI.val 9 (hD 9 (by decide))
      refine hI.val_step hL (by simp) ?_
      rw [show readsOf plan_52_7 10 = [(37, 9)] from rfl]
      refine give_call _ _ _ _ rfl rfl Try.func64 (by kernel_rfl) (by kernel_rfl) ?_
      refine Calls.mono (by have := eroot h9 w; rwa [← hU'.out] at this) ?_
      rintro e w' ⟨r, rfl, hr, hx⟩
      exact ⟨r, rfl, hr, hx⟩
    · intro L v w hL hD hC hI
      refine ⟨fun _ => ?_, fun hw => by cases hw⟩
      have h10 : isRt (v 10) (okF U) (rtF U) := hI.val 10 (hD 10 (by decide))
      refine hI.val_step hL (by simp) ?_
      rw [show readsOf plan_52_7 11 = [(38, 10)] from rfl]
      exact ⟨h10, Ext.refl _⟩
    · intro L v w hL hD hC hI
      refine ⟨fun _ => ?_, fun hw => by cases hw⟩
      have h11 : isRt (v 11) (okF U) (rtF U) := hI.val 11 (hD 11 (by decide))
      refine hI.val_step hL (by simp) ?_
      rw [show readsOf plan_52_7 12 = [(27, 11)] from rfl]
      obtain ⟨r0, hr, hR⟩ := h11
      simp only [putP, Act.put, List.setIfInBounds_toArray, List.set_cons_zero, List.set_cons_succ, hr]
      go_simp
      exact ⟨hR, Ext.refl _⟩
    · intro L v w hL hD hC hI
      refine ⟨fun _ => ?_, fun hw => by cases hw⟩
      have h11 : isRt (v 11) (okF U) (rtF U) := hI.val 11 (hD 11 (by decide))
      refine hI.val_step hL (by simp) ?_
      rw [show readsOf plan_52_7 13 = [(27, 11)] from rfl]
      obtain ⟨r0, hr, hR⟩ := h11
      simp only [putP, Act.put, List.setIfInBounds_toArray, List.set_cons_zero, List.set_cons_succ, hr]
      go_simp
      exact ⟨rfl, Ext.refl _⟩
    · intro L v w hL hD hC hI
      refine ⟨fun _ => ?_, fun hw => by cases hw⟩
      refine Inv.alloc_step hok hI hL ⟨some 14, 0, 73, some 15, fun cs => cs.length = 4, fun cs => isR (Value.agg (List.toArray cs)) (okF U) (rtF U)⟩ (by simp) rfl (by simp) (by intro s hs; cases hs; exact not_yet hC hL (by decide)) ?_
      rw [show readsOf plan_52_7 14 = [] from rfl]
      go_simp
      first | exact ⟨rfl, _, rfl, by first | rfl | trivial⟩ | exact ⟨trivial, rfl, _, rfl, by first | rfl | trivial⟩ | exact ⟨rfl, pcL (fun _ => 0) (fun _ => 0), rfl, pcL_len _ _⟩ | exact ⟨trivial, rfl, pcL (fun _ => 0) (fun _ => 0), rfl, pcL_len _ _⟩ | exact ⟨rfl, (bcells fun _ => 0).toList, by rw [Array.toArray_toList], by simp⟩ | exact ⟨trivial, rfl, (bcells fun _ => 0).toList, by rw [Array.toArray_toList], by simp⟩
    · intro L v w hL hD hC hI
      refine ⟨fun _ => ?_, fun hw => by cases hw⟩
      have h12 : isR (v 12) (okF U) (rtF U) := hI.val 12 (hD 12 (by decide))
      refine Inv.store_step hok hI hL ⟨some 14, 0, 73, some 15, fun cs => cs.length = 4, fun cs => isR (Value.agg (List.toArray cs)) (okF U) (rtF U)⟩ (by simp) rfl (by simp) (by intro k hk; cases hk; exact hD 14 (by decide)) ?_
      intro n cs hb hR hold
      change v 14 = .pointer (some ⟨n, 0, none⟩) at hb
      rw [show readsOf plan_52_7 15 = [(39, 12), (6, 14)] from rfl]
      obtain ⟨X, hX, hXR⟩ := h12
      exact st_E hR hold _ _ rfl hb hX fun w' cs' hr he hk => ⟨trivial, hk, cs', hr, ⟨X, he, hXR⟩⟩
    · intro L v w hL hD hC hI
      refine ⟨fun _ => ?_, fun hw => by cases hw⟩
      have h13 : (v 13) = .bool (okF U) := hI.val 13 (hD 13 (by decide))
      refine hI.val_step hL (by simp) ?_
      rw [show readsOf plan_52_7 16 = [(40, 13)] from rfl]
      exact ⟨h13, Ext.refl _⟩
    intro L v5 W5 hL hI
    obtain ⟨x6, cs, hb_x6, lo_x6, hr, hn, ho⟩ := hI.row_made ⟨some 14, 0, 73, some 15, fun cs => cs.length = 4, fun cs => isR (Value.agg (List.toArray cs)) (okF U) (rtF U)⟩ (by simp) 14 rfl (hL 14 (by decide))
    have R_x6 : RV W5 x6 73 (fun u => isR u (okF U) (rtF U)) := ⟨cs, hr, hn 15 rfl (hL 15 (by decide))⟩
    clear hr hn ho
    replace R_n1 := R_n1.keep hI.keep (by simp)
    replace R_r := R_r.keep hI.keep (by simp)
    replace R_y5 := R_y5.keep hI.keep (by simp)
    have ne_n1_x6 : n1 ≠ x6 := Nat.ne_of_lt (Nat.lt_of_lt_of_le lt_n1 lo_x6)
    have ne_r_x6 : r ≠ x6 := Nat.ne_of_lt (Nat.lt_of_lt_of_le lt_r lo_x6)
    have ne_y5_x6 : y5 ≠ x6 := Nat.ne_of_lt (Nat.lt_of_lt_of_le lt_y5 lo_x6)
    replace lt_n1 := Nat.lt_of_lt_of_le lt_n1 hI.keep.size
    replace lt_r := Nat.lt_of_lt_of_le lt_r hI.keep.size
    replace lt_y5 := Nat.lt_of_lt_of_le lt_y5 hI.keep.size
    have hx' : Ext w W5 := hx.trans hI.keep.to_ext
    have lt_x6 : x6 < W5.heap.size := R_x6.lt
    have bs_x6 : w.heap.size ≤ x6 := Nat.le_trans hx.size lo_x6
    have hs_7_7 : (v5 16) = .bool (okF U) := hI.val 16 (hL 16 (by decide))
    clear hx hI hL hok L
    have hx := hx'
    clear hx'
    simp only [putP, Act.put, List.setIfInBounds_toArray, List.set_cons_zero, List.set_cons_succ, hb_x6, hs_7_7]
    obtain ⟨X, R_X, hXR⟩ := RV.isR R_x6
    clear R_x6
    have R_x6 := R_X
    clear R_X
    go_upto_region 8 with fail
    have hok : TrsOk [] W5.heap.size ([⟨some 2, 0, 22, some 3, fun cs => cs.length = 32, fun cs => (Value.agg (List.toArray cs)) = .agg (bcells (fb (X)))⟩] : List Trk) := ⟨by simp, by simp, by simp, by simp⟩
    refine wp_region_text (Inv [] (fun j u => match j with | 0 => isE u (X) | 1 => u = .agg (bcells (fb (X))) | _ => True) [⟨some 2, 0, 22, some 3, fun cs => cs.length = 32, fun cs => (Value.agg (List.toArray cs)) = .agg (bcells (fb (X)))⟩] W5) plan_52_8 [(41, 0), (42, 1), (8, 2)] 66 rfl (by kernel_rfl) (Inv.start0 hok (by simp)) ⟨?_, ?_, ?_, ?_, trivial⟩ ?_
    · intro L v w hL hD hC hI
      refine ⟨fun _ => ?_, fun hw => by cases hw⟩
      refine hI.val_step hL (by simp) ?_
      rw [show readsOf plan_52_8 0 = [] from rfl]
      exact ld_E (R_x6.keep hI.keep (by simp)) _ rfl rfl fun u hu => ⟨hu, Ext.refl _⟩
    · intro L v w hL hD hC hI
      refine ⟨fun _ => ?_, fun hw => by cases hw⟩
      have h0 : isE (v 0) (X) := hI.val 0 (hD 0 (by decide))
      refine hI.val_step hL (by simp) ?_
      rw [show readsOf plan_52_8 1 = [(41, 0)] from rfl]
      refine give_call _ _ _ _ rfl rfl Try.func59 (by kernel_rfl) (by kernel_rfl) ?_
      refine Calls.mono (eout h0 w) ?_
      rintro e w' ⟨rfl, hx⟩
      exact ⟨_, rfl, rfl, hx⟩
    · intro L v w hL hD hC hI
      refine ⟨fun _ => ?_, fun hw => by cases hw⟩
      refine Inv.alloc_step hok hI hL ⟨some 2, 0, 22, some 3, fun cs => cs.length = 32, fun cs => (Value.agg (List.toArray cs)) = .agg (bcells (fb (X)))⟩ (by simp) rfl (by simp) (by intro s hs; cases hs; exact not_yet hC hL (by decide)) ?_
      rw [show readsOf plan_52_8 2 = [] from rfl]
      go_simp
      first | exact ⟨rfl, _, rfl, by first | rfl | trivial⟩ | exact ⟨trivial, rfl, _, rfl, by first | rfl | trivial⟩ | exact ⟨rfl, pcL (fun _ => 0) (fun _ => 0), rfl, pcL_len _ _⟩ | exact ⟨trivial, rfl, pcL (fun _ => 0) (fun _ => 0), rfl, pcL_len _ _⟩ | exact ⟨rfl, (bcells fun _ => 0).toList, by rw [Array.toArray_toList], by simp⟩ | exact ⟨trivial, rfl, (bcells fun _ => 0).toList, by rw [Array.toArray_toList], by simp⟩
    · intro L v w hL hD hC hI
      refine ⟨fun _ => ?_, fun hw => by cases hw⟩
      have h1 : (v 1) = .agg (bcells (fb (X))) := hI.val 1 (hD 1 (by decide))
      refine Inv.store_step hok hI hL ⟨some 2, 0, 22, some 3, fun cs => cs.length = 32, fun cs => (Value.agg (List.toArray cs)) = .agg (bcells (fb (X)))⟩ (by simp) rfl (by simp) (by intro k hk; cases hk; exact hD 2 (by decide)) ?_
      intro n cs hb hR hold
      change v 2 = .pointer (some ⟨n, 0, none⟩) at hb
      rw [show readsOf plan_52_8 3 = [(42, 1), (8, 2)] from rfl]
      exact st_B hR hold _ _ rfl hb h1 fun w' cs' hr he hk => ⟨trivial, hk, cs', hr, he⟩
    intro L v6 W6 hL hI
    obtain ⟨n8, cs, hb_n8, lo_n8, hr, hn, ho⟩ := hI.row_made ⟨some 2, 0, 22, some 3, fun cs => cs.length = 32, fun cs => (Value.agg (List.toArray cs)) = .agg (bcells (fb (X)))⟩ (by simp) 2 rfl (hL 2 (by decide))
    have R_n8 : RV W6 n8 22 (fun u => u = .agg (bcells (fb (X)))) := ⟨cs, hr, hn 3 rfl (hL 3 (by decide))⟩
    clear hr hn ho
    replace R_n1 := R_n1.keep hI.keep (by simp)
    replace R_r := R_r.keep hI.keep (by simp)
    replace R_y5 := R_y5.keep hI.keep (by simp)
    replace R_x6 := R_x6.keep hI.keep (by simp)
    have ne_n1_n8 : n1 ≠ n8 := Nat.ne_of_lt (Nat.lt_of_lt_of_le lt_n1 lo_n8)
    have ne_r_n8 : r ≠ n8 := Nat.ne_of_lt (Nat.lt_of_lt_of_le lt_r lo_n8)
    have ne_y5_n8 : y5 ≠ n8 := Nat.ne_of_lt (Nat.lt_of_lt_of_le lt_y5 lo_n8)
    have ne_x6_n8 : x6 ≠ n8 := Nat.ne_of_lt (Nat.lt_of_lt_of_le lt_x6 lo_n8)
    replace lt_n1 := Nat.lt_of_lt_of_le lt_n1 hI.keep.size
    replace lt_r := Nat.lt_of_lt_of_le lt_r hI.keep.size
    replace lt_y5 := Nat.lt_of_lt_of_le lt_y5 hI.keep.size
    replace lt_x6 := Nat.lt_of_lt_of_le lt_x6 hI.keep.size
    have hx' : Ext w W6 := hx.trans hI.keep.to_ext
    have lt_n8 : n8 < W6.heap.size := R_n8.lt
    have bs_n8 : w.heap.size ≤ n8 := Nat.le_trans hx.size lo_n8
    clear hx hI hL hok L
    have hx := hx'
    clear hx'
    simp only [putP, Act.put, List.setIfInBounds_toArray, List.set_cons_zero, List.set_cons_succ, hb_n8]
    have o8 := R_n8.opt
    cases hok : okF U
    · skip
      have hdd : Hid (d = none) := Lib.hid (by rw [hd.out, if_neg (by rw [hok]; decide)])
      go_upto_region 10 with fail
      have hok : TrsOk [r] W6.heap.size ([⟨none, r, 43, some 2, fun cs => cs.length = 64, fun cs => (Value.agg (List.toArray cs)) = .agg (pc (fun _ => 0) (fun _ => 0))⟩] : List Trk) := ⟨by simp [R_r.lt], by simp, by simp, by simp⟩
      refine wp_region_text (Inv [r] (fun j u => match j with | 0 => u = .agg (pc (fun _ => 0) (fun _ => 0)) | 1 => u = .iface 30 (.int .i64 29) | 3 => u = .iface 30 (.int .i64 29) | _ => True) [⟨none, r, 43, some 2, fun cs => cs.length = 64, fun cs => (Value.agg (List.toArray cs)) = .agg (pc (fun _ => 0) (fun _ => 0))⟩] W6) plan_52_10 [(55, 0), (56, 1), (3, 3)] 66 rfl (by kernel_rfl) (Inv.start0 hok (by
          simp only [List.forall_mem_cons, List.not_mem_nil, false_implies, implies_true, and_true]
          exact fun _ => R_r)) ⟨?_, ?_, ?_, ?_, trivial⟩ ?_
      · intro L v w hL hD hC hI
        refine ⟨fun _ => ?_, fun hw => by cases hw⟩
        refine hI.val_step hL (by simp) ?_
        rw [show readsOf plan_52_10 0 = [] from rfl]
        exact give_zeroP rfl ⟨rfl, Ext.refl _⟩
      · intro L v w hL hD hC hI
        refine ⟨fun _ => ?_, fun hw => by cases hw⟩
        refine hI.val_step hL (by simp) ?_
        rw [show readsOf plan_52_10 1 = [] from rfl]
        go_simp
        exact ⟨rfl, Ext.refl _⟩
      · intro L v w hL hD hC hI
        refine ⟨fun _ => ?_, fun hw => by cases hw⟩
        have h0 : (v 0) = .agg (pc (fun _ => 0) (fun _ => 0)) := hI.val 0 (hD 0 (by decide))
        refine Inv.store_step hok hI hL ⟨none, r, 43, some 2, fun cs => cs.length = 64, fun cs => (Value.agg (List.toArray cs)) = .agg (pc (fun _ => 0) (fun _ => 0))⟩ (by simp) rfl (by simp) (by intro k hk; cases hk) ?_
        intro n cs hb hR hold
        change n = r at hb
        subst hb
        rw [show readsOf plan_52_10 2 = [(55, 0)] from rfl]
        exact st_P hR hold _ _ rfl rfl h0 fun w' cs' hr he hk => ⟨trivial, hk, cs', hr, he⟩
      · intro L v w hL hD hC hI
        refine ⟨fun _ => ?_, fun hw => by cases hw⟩
        have h1 : (v 1) = .iface 30 (.int .i64 29) := hI.val 1 (hD 1 (by decide))
        refine hI.val_step hL (by simp) ?_
        rw [show readsOf plan_52_10 3 = [(56, 1)] from rfl]
        exact ⟨h1, Ext.refl _⟩
      intro L v7 W7 hL hI
      have N_r : RV W7 r 43 (fun u => u = .agg (pc (fun _ => 0) (fun _ => 0))) := hI.row_new ⟨none, r, 43, some 2, fun cs => cs.length = 64, fun cs => (Value.agg (List.toArray cs)) = .agg (pc (fun _ => 0) (fun _ => 0))⟩ (by simp) rfl 2 rfl (hL 2 (by decide))
      replace R_n1 := R_n1.keep hI.keep (by simp [ne_n1_r, Ne.symm ne_n1_r])
      replace R_y5 := R_y5.keep hI.keep (by simp [ne_r_y5, Ne.symm ne_r_y5])
      replace R_x6 := R_x6.keep hI.keep (by simp [ne_r_x6, Ne.symm ne_r_x6])
      replace R_n8 := R_n8.keep hI.keep (by simp [ne_r_n8, Ne.symm ne_r_n8])
      clear R_r
      have R_r := N_r
      clear N_r
      replace lt_n1 := Nat.lt_of_lt_of_le lt_n1 hI.keep.size
      replace lt_r := Nat.lt_of_lt_of_le lt_r hI.keep.size
      replace lt_y5 := Nat.lt_of_lt_of_le lt_y5 hI.keep.size
      replace lt_x6 := Nat.lt_of_lt_of_le lt_x6 hI.keep.size
      replace lt_n8 := Nat.lt_of_lt_of_le lt_n8 hI.keep.size
      have hx' : Ext w W7 := Ext.keep_ hx hI.keep (by simp only [List.forall_mem_cons, List.not_mem_nil, false_implies, implies_true, and_true]; exact bs_r)
      have hs_3_10 : (v7 3) = .iface 30 (.int .i64 29) := hI.val 3 (hL 3 (by decide))
      clear hx hI hL hok L
      have hx := hx'
      clear hx'
      simp only [putP, Act.put, List.setIfInBounds_toArray, List.set_cons_zero, List.set_cons_succ, hs_3_10]
      go_wp2
      refine bodyPost_ret (results_P2 rfl _ R_r rfl) rfl ?_
      refine ⟨?_, hx⟩
      rw [hdd.out, decV_none]
      rfl
    · have hdl := hd.out
      rw [if_pos hok] at hdl
      obtain rfl := hXR hok
      clear hd hok hXR
      by_cases ho1 : (o == 1) = true
      · rw [if_pos ho1] at hdl
        by_cases hz : rtF U = 0
        · rw [if_pos hz] at hdl
          have hbz : beqb (fb (rtF U)) (fun _ => 0) = true := by rw [← fb_0, beqb_fb, hz]; rfl
          have hdd : Hid (d = none) := Lib.hid hdl
          clear hdl
          go_upto_region 10 with fail
          have hok : TrsOk [r] W6.heap.size ([⟨none, r, 43, some 2, fun cs => cs.length = 64, fun cs => (Value.agg (List.toArray cs)) = .agg (pc (fun _ => 0) (fun _ => 0))⟩] : List Trk) := ⟨by simp [R_r.lt], by simp, by simp, by simp⟩
          refine wp_region_text (Inv [r] (fun j u => match j with | 0 => u = .agg (pc (fun _ => 0) (fun _ => 0)) | 1 => u = .iface 30 (.int .i64 29) | 3 => u = .iface 30 (.int .i64 29) | _ => True) [⟨none, r, 43, some 2, fun cs => cs.length = 64, fun cs => (Value.agg (List.toArray cs)) = .agg (pc (fun _ => 0) (fun _ => 0))⟩] W6) plan_52_10 [(55, 0), (56, 1), (3, 3)] 66 rfl (by kernel_rfl) (Inv.start0 hok (by
              simp only [List.forall_mem_cons, List.not_mem_nil, false_implies, implies_true, and_true]
              exact fun _ => R_r)) ⟨?_, ?_, ?_, ?_, trivial⟩ ?_
          · intro L v w hL hD hC hI
            refine ⟨fun _ => ?_, fun hw => by cases hw⟩
            refine hI.val_step hL (by simp) ?_
            rw [show readsOf plan_52_10 0 = [] from rfl]
            exact give_zeroP rfl ⟨rfl, Ext.refl _⟩
          · intro L v w hL hD hC hI
            refine ⟨fun _ => ?_, fun hw => by cases hw⟩
            refine hI.val_step hL (by simp) ?_
            rw [show readsOf plan_52_10 1 = [] from rfl]
            go_simp
            exact ⟨rfl, Ext.refl _⟩
          · intro L v w hL hD hC hI
            refine ⟨fun _ => ?_, fun hw => by cases hw⟩
            have h0 : (v 0) = .agg (pc (fun _ => 0) (fun _ => 0)) := hI.val 0 (hD 0 (by decide))
            refine Inv.store_step hok hI hL ⟨none, r, 43, some 2, fun cs => cs.length = 64, fun cs => (Value.agg (List.toArray cs)) = .agg (pc (fun _ => 0) (fun _ => 0))⟩ (by simp) rfl (by simp) (by intro k hk; cases hk) ?_
            intro n cs hb hR hold
            change n = r at hb
            subst hb
            rw [show readsOf plan_52_10 2 = [(55, 0)] from rfl]
            exact st_P hR hold _ _ rfl rfl h0 fun w' cs' hr he hk => ⟨trivial, hk, cs', hr, he⟩
          · intro L v w hL hD hC hI
            refine ⟨fun _ => ?_, fun hw => by cases hw⟩
            have h1 : (v 1) = .iface 30 (.int .i64 29) := hI.val 1 (hD 1 (by decide))
            refine hI.val_step hL (by simp) ?_
            rw [show readsOf plan_52_10 3 = [(56, 1)] from rfl]
            exact ⟨h1, Ext.refl _⟩
          intro L v7 W7 hL hI
          have N_r : RV W7 r 43 (fun u => u = .agg (pc (fun _ => 0) (fun _ => 0))) := hI.row_new ⟨none, r, 43, some 2, fun cs => cs.length = 64, fun cs => (Value.agg (List.toArray cs)) = .agg (pc (fun _ => 0) (fun _ => 0))⟩ (by simp) rfl 2 rfl (hL 2 (by decide))
          replace R_n1 := R_n1.keep hI.keep (by simp [ne_n1_r, Ne.symm ne_n1_r])
          replace R_y5 := R_y5.keep hI.keep (by simp [ne_r_y5, Ne.symm ne_r_y5])
          replace R_x6 := R_x6.keep hI.keep (by simp [ne_r_x6, Ne.symm ne_r_x6])
          replace R_n8 := R_n8.keep hI.keep (by simp [ne_r_n8, Ne.symm ne_r_n8])
          clear R_r
          have R_r := N_r
          clear N_r
          replace lt_n1 := Nat.lt_of_lt_of_le lt_n1 hI.keep.size
          replace lt_r := Nat.lt_of_lt_of_le lt_r hI.keep.size
          replace lt_y5 := Nat.lt_of_lt_of_le lt_y5 hI.keep.size
          replace lt_x6 := Nat.lt_of_lt_of_le lt_x6 hI.keep.size
          replace lt_n8 := Nat.lt_of_lt_of_le lt_n8 hI.keep.size
          have hx' : Ext w W7 := Ext.keep_ hx hI.keep (by simp only [List.forall_mem_cons, List.not_mem_nil, false_implies, implies_true, and_true]; exact bs_r)
          have hs_3_10 : (v7 3) = .iface 30 (.int .i64 29) := hI.val 3 (hL 3 (by decide))
          clear hx hI hL hok L
          have hx := hx'
          clear hx'
          simp only [putP, Act.put, List.setIfInBounds_toArray, List.set_cons_zero, List.set_cons_succ, hs_3_10]
          go_wp2
          refine bodyPost_ret (results_P2 rfl _ R_r rfl) rfl ?_
          refine ⟨?_, hx⟩
          rw [hdd.out, decV_none]
          rfl
        · rw [if_neg hz] at hdl
          replace hdl := Lib.hid hdl
          have hbz : beqb (fb (rtF U)) (fun _ => 0) = false := by rw [← fb_0, beqb_fb, decide_eq_false hz]
          go_upto_region 12 with fail
          have hok : TrsOk [n8] W6.heap.size ([⟨none, n8, 22, some 3, fun cs => (Value.agg (List.toArray cs)) = .agg (bcells (fb (rtF U))), fun cs => (Value.agg (List.toArray cs)) = .agg (bcells (fb (tf (V (fun _ => 0)) - tf (V (fb (rtF U))))))⟩] : List Trk) := ⟨by simp [R_n8.lt], by simp, by simp, by simp⟩
          refine wp_region_text (Inv [n8] (fun j u => match j with | 0 => u = .agg (bcells (fun _ => 0)) | 1 => u = .agg (bcells (fb (rtF U))) | 2 => u = .agg (bcells (fb (tf (V (fun _ => 0)) - tf (V (fb (rtF U)))))) | _ => True) [⟨none, n8, 22, some 3, fun cs => (Value.agg (List.toArray cs)) = .agg (bcells (fb (rtF U))), fun cs => (Value.agg (List.toArray cs)) = .agg (bcells (fb (tf (V (fun _ => 0)) - tf (V (fb (rtF U))))))⟩] W6) plan_52_12 [(60, 0), (61, 1), (62, 2)] 66 rfl (by kernel_rfl) (Inv.start0 hok (by
              simp only [List.forall_mem_cons, List.not_mem_nil, false_implies, implies_true, and_true]
              exact fun _ => R_n8)) ⟨?_, ?_, ?_, ?_, trivial⟩ ?_
          · intro L v w hL hD hC hI
            refine ⟨fun _ => ?_, fun hw => by cases hw⟩
            refine hI.val_step hL (by simp) ?_
            rw [show readsOf plan_52_12 0 = [] from rfl]
            go_simp
            exact ⟨rfl, Ext.refl _⟩
          · intro L v w hL hD hC hI
            refine ⟨fun _ => ?_, fun hw => by cases hw⟩
            refine hI.val_step hL (by simp) ?_
            rw [show readsOf plan_52_12 1 = [] from rfl]
            exact ld_B (hI.row_old ⟨none, n8, 22, some 3, fun cs => (Value.agg (List.toArray cs)) = .agg (bcells (fb (rtF U))), fun cs => (Value.agg (List.toArray cs)) = .agg (bcells (fb (tf (V (fun _ => 0)) - tf (V (fb (rtF U))))))⟩ (by simp) rfl (by intro s hs; cases hs; exact not_yet hC hL (by decide))) _ rfl rfl fun u hu => ⟨hu, Ext.refl _⟩
          · intro L v w hL hD hC hI
            refine ⟨fun _ => ?_, fun hw => by cases hw⟩
            have h0 : (v 0) = .agg (bcells (fun _ => 0)) := hI.val 0 (hD 0 (by decide))
            have h1 : (v 1) = .agg (bcells (fb (rtF U))) := hI.val 1 (hD 1 (by decide))
            refine hI.val_step hL (by simp) ?_
            rw [show readsOf plan_52_12 2 = [(60, 0), (61, 1)] from rfl]
            refine give_call _ _ _ _ rfl rfl Try.func23 (by kernel_rfl) (by kernel_rfl) ?_
            refine Calls.mono (by have := fsubF (fun _ => 0) (fb (rtF U)) w; rwa [← h0, ← h1] at this) ?_
            rintro e w' ⟨rfl, hx⟩
            exact ⟨_, rfl, rfl, hx⟩
          · intro L v w hL hD hC hI
            refine ⟨fun _ => ?_, fun hw => by cases hw⟩
            have h2 : (v 2) = .agg (bcells (fb (tf (V (fun _ => 0)) - tf (V (fb (rtF U)))))) := hI.val 2 (hD 2 (by decide))
            refine Inv.store_step hok hI hL ⟨none, n8, 22, some 3, fun cs => (Value.agg (List.toArray cs)) = .agg (bcells (fb (rtF U))), fun cs => (Value.agg (List.toArray cs)) = .agg (bcells (fb (tf (V (fun _ => 0)) - tf (V (fb (rtF U))))))⟩ (by simp) rfl (by simp) (by intro k hk; cases hk) ?_
            intro n cs hb hR hold
            change n = n8 at hb
            subst hb
            rw [show readsOf plan_52_12 3 = [(62, 2)] from rfl]
            exact st_B hR (by rw [bL_of hold]; simp) _ _ rfl rfl h2 fun w' cs' hr he hk => ⟨trivial, hk, cs', hr, he⟩
          intro L v7 W7 hL hI
          have N_n8 : RV W7 n8 22 (fun u => u = .agg (bcells (fb (tf (V (fun _ => 0)) - tf (V (fb (rtF U))))))) := hI.row_new ⟨none, n8, 22, some 3, fun cs => (Value.agg (List.toArray cs)) = .agg (bcells (fb (rtF U))), fun cs => (Value.agg (List.toArray cs)) = .agg (bcells (fb (tf (V (fun _ => 0)) - tf (V (fb (rtF U))))))⟩ (by simp) rfl 3 rfl (hL 3 (by decide))
          replace R_n1 := R_n1.keep hI.keep (by simp [ne_n1_n8, Ne.symm ne_n1_n8])
          replace R_r := R_r.keep hI.keep (by simp [ne_r_n8, Ne.symm ne_r_n8])
          replace R_y5 := R_y5.keep hI.keep (by simp [ne_y5_n8, Ne.symm ne_y5_n8])
          replace R_x6 := R_x6.keep hI.keep (by simp [ne_x6_n8, Ne.symm ne_x6_n8])
          clear R_n8
          have R_n8 := N_n8
          clear N_n8
          replace lt_n1 := Nat.lt_of_lt_of_le lt_n1 hI.keep.size
          replace lt_r := Nat.lt_of_lt_of_le lt_r hI.keep.size
          replace lt_y5 := Nat.lt_of_lt_of_le lt_y5 hI.keep.size
          replace lt_x6 := Nat.lt_of_lt_of_le lt_x6 hI.keep.size
          replace lt_n8 := Nat.lt_of_lt_of_le lt_n8 hI.keep.size
          have hx' : Ext w W7 := Ext.keep_ hx hI.keep (by simp only [List.forall_mem_cons, List.not_mem_nil, false_implies, implies_true, and_true]; exact bs_n8)
          clear hx hI hL hok L
          have hx := hx'
          clear hx'
          simp only [putP, Act.put, List.setIfInBounds_toArray, List.set_cons_zero, List.set_cons_succ]
          go_upto_region 13 with fail
          have hok : TrsOk [r] W7.heap.size ([⟨none, r, 43, some 3, fun cs => cs.length = 64, fun cs => (Value.agg (List.toArray cs)) = .agg (pc (fb (tf (V (fun _ => 0)) - tf (V (fb (rtF U))))) (g))⟩] : List Trk) := ⟨by simp [R_r.lt], by simp, by simp, by simp⟩
          refine wp_region_text (Inv [r] (fun j u => match j with | 0 => u = .agg (bcells (fb (tf (V (fun _ => 0)) - tf (V (fb (rtF U)))))) | 1 => u = .agg (bcells (g)) | 2 => u = .agg (pc (fb (tf (V (fun _ => 0)) - tf (V (fb (rtF U))))) (g)) | 4 => u = .nilIface | _ => True) [⟨none, r, 43, some 3, fun cs => cs.length = 64, fun cs => (Value.agg (List.toArray cs)) = .agg (pc (fb (tf (V (fun _ => 0)) - tf (V (fb (rtF U))))) (g))⟩] W7) plan_52_13 [(63, 0), (64, 1), (65, 2), (3, 4)] 66 rfl (by kernel_rfl) (Inv.start0 hok (by
              simp only [List.forall_mem_cons, List.not_mem_nil, false_implies, implies_true, and_true]
              exact fun _ => R_r)) ⟨?_, ?_, ?_, ?_, ?_, trivial⟩ ?_
          · intro L v w hL hD hC hI
            refine ⟨fun _ => ?_, fun hw => by cases hw⟩
            refine hI.val_step hL (by simp) ?_
            rw [show readsOf plan_52_13 0 = [] from rfl]
            exact ld_B (R_n8.keep hI.keep (by simp [ne_r_n8, Ne.symm ne_r_n8])) _ rfl rfl fun u hu => ⟨hu, Ext.refl _⟩
          · intro L v w hL hD hC hI
            refine ⟨fun _ => ?_, fun hw => by cases hw⟩
            refine hI.val_step hL (by simp) ?_
            rw [show readsOf plan_52_13 1 = [] from rfl]
            exact ld_B (R_n1.keep hI.keep (by simp [ne_n1_r, Ne.symm ne_n1_r])) _ rfl rfl fun u hu => ⟨hu, Ext.refl _⟩
          · intro L v w hL hD hC hI
            refine ⟨fun _ => ?_, fun hw => by cases hw⟩
            have h0 : (v 0) = .agg (bcells (fb (tf (V (fun _ => 0)) - tf (V (fb (rtF U)))))) := hI.val 0 (hD 0 (by decide))
            have h1 : (v 1) = .agg (bcells (g)) := hI.val 1 (hD 1 (by decide))
            refine hI.val_step hL (by simp) ?_
            rw [show readsOf plan_52_13 2 = [(63, 0), (64, 1)] from rfl]
            exact bd_P _ _ rfl h0 h1 fun u hu => ⟨hu, Ext.refl _⟩
          · intro L v w hL hD hC hI
            refine ⟨fun _ => ?_, fun hw => by cases hw⟩
            have h2 : (v 2) = .agg (pc (fb (tf (V (fun _ => 0)) - tf (V (fb (rtF U))))) (g)) := hI.val 2 (hD 2 (by decide))
            refine Inv.store_step hok hI hL ⟨none, r, 43, some 3, fun cs => cs.length = 64, fun cs => (Value.agg (List.toArray cs)) = .agg (pc (fb (tf (V (fun _ => 0)) - tf (V (fb (rtF U))))) (g))⟩ (by simp) rfl (by simp) (by intro k hk; cases hk) ?_
            intro n cs hb hR hold
            change n = r at hb
            subst hb
            rw [show readsOf plan_52_13 3 = [(65, 2)] from rfl]
            exact st_P hR hold _ _ rfl rfl h2 fun w' cs' hr he hk => ⟨trivial, hk, cs', hr, he⟩
          · intro L v w hL hD hC hI
            refine ⟨fun _ => ?_, fun hw => by cases hw⟩
            refine hI.val_step hL (by simp) ?_
            rw [show readsOf plan_52_13 4 = [] from rfl]
            first | exact ⟨rfl, Ext.refl _⟩ | (go_simp; exact ⟨rfl, Ext.refl _⟩)
          intro L v8 W8 hL hI
          have N_r : RV W8 r 43 (fun u => u = .agg (pc (fb (tf (V (fun _ => 0)) - tf (V (fb (rtF U))))) (g))) := hI.row_new ⟨none, r, 43, some 3, fun cs => cs.length = 64, fun cs => (Value.agg (List.toArray cs)) = .agg (pc (fb (tf (V (fun _ => 0)) - tf (V (fb (rtF U))))) (g))⟩ (by simp) rfl 3 rfl (hL 3 (by decide))
          replace R_n1 := R_n1.keep hI.keep (by simp [ne_n1_r, Ne.symm ne_n1_r])
          replace R_y5 := R_y5.keep hI.keep (by simp [ne_r_y5, Ne.symm ne_r_y5])
          replace R_x6 := R_x6.keep hI.keep (by simp [ne_r_x6, Ne.symm ne_r_x6])
          replace R_n8 := R_n8.keep hI.keep (by simp [ne_r_n8, Ne.symm ne_r_n8])
          clear R_r
          have R_r := N_r
          clear N_r
          replace lt_n1 := Nat.lt_of_lt_of_le lt_n1 hI.keep.size
          replace lt_r := Nat.lt_of_lt_of_le lt_r hI.keep.size
          replace lt_y5 := Nat.lt_of_lt_of_le lt_y5 hI.keep.size
          replace lt_x6 := Nat.lt_of_lt_of_le lt_x6 hI.keep.size
          replace lt_n8 := Nat.lt_of_lt_of_le lt_n8 hI.keep.size
          have hx' : Ext w W8 := Ext.keep_ hx hI.keep (by simp only [List.forall_mem_cons, List.not_mem_nil, false_implies, implies_true, and_true]; exact bs_r)
          have hs_3_13 : (v8 4) = .nilIface := hI.val 4 (hL 4 (by decide))
          clear hx hI hL hok L
          have hx := hx'
          clear hx'
          simp only [putP, Act.put, List.setIfInBounds_toArray, List.set_cons_zero, List.set_cons_succ, hs_3_13]
          go_wp2
          refine bodyPost_ret (results_P2 rfl _ R_r rfl) rfl ?_
          refine ⟨?_, hx⟩
          rw [hdl.out, decV_some, hyg.out, ← pc_low hlt, tf_V_fb, V_z]
          rfl
      · rw [if_neg ho1] at hdl
        have ho2 : (o == 1) = false := by simpa using ho1
        replace hdl := Lib.hid hdl
        go_upto_region 13 with fail
        have hok : TrsOk [r] W6.heap.size ([⟨none, r, 43, some 3, fun cs => cs.length = 64, fun cs => (Value.agg (List.toArray cs)) = .agg (pc (fb (rtF U)) (g))⟩] : List Trk) := ⟨by simp [R_r.lt], by simp, by simp, by simp⟩
        refine wp_region_text (Inv [r] (fun j u => match j with | 0 => u = .agg (bcells (fb (rtF U))) | 1 => u = .agg (bcells (g)) | 2 => u = .agg (pc (fb (rtF U)) (g)) | 4 => u = .nilIface | _ => True) [⟨none, r, 43, some 3, fun cs => cs.length = 64, fun cs => (Value.agg (List.toArray cs)) = .agg (pc (fb (rtF U)) (g))⟩] W6) plan_52_13 [(63, 0), (64, 1), (65, 2), (3, 4)] 66 rfl (by kernel_rfl) (Inv.start0 hok (by
            simp only [List.forall_mem_cons, List.not_mem_nil, false_implies, implies_true, and_true]
            exact fun _ => R_r)) ⟨?_, ?_, ?_, ?_, ?_, trivial⟩ ?_
        · intro L v w hL hD hC hI
          refine ⟨fun _ => ?_, fun hw => by cases hw⟩
          refine hI.val_step hL (by simp) ?_
          rw [show readsOf plan_52_13 0 = [] from rfl]
          exact ld_B (R_n8.keep hI.keep (by simp [ne_r_n8, Ne.symm ne_r_n8])) _ rfl rfl fun u hu => ⟨hu, Ext.refl _⟩
        · intro L v w hL hD hC hI
          refine ⟨fun _ => ?_, fun hw => by cases hw⟩
          refine hI.val_step hL (by simp) ?_
          rw [show readsOf plan_52_13 1 = [] from rfl]
          exact ld_B (R_n1.keep hI.keep (by simp [ne_n1_r, Ne.symm ne_n1_r])) _ rfl rfl fun u hu => ⟨hu, Ext.refl _⟩
        · intro L v w hL hD hC hI
          refine ⟨fun _ => ?_, fun hw => by cases hw⟩
          have h0 : (v 0) = .agg (bcells (fb (rtF U))) := hI.val 0 (hD 0 (by decide))
          have h1 : (v 1) = .agg (bcells (g)) := hI.val 1 (hD 1 (by decide))
          refine hI.val_step hL (by simp) ?_
          rw [show readsOf plan_52_13 2 = [(63, 0), (64, 1)] from rfl]
          exact bd_P _ _ rfl h0 h1 fun u hu => ⟨hu, Ext.refl _⟩
        · intro L v w hL hD hC hI
          refine ⟨fun _ => ?_, fun hw => by cases hw⟩
          have h2 : (v 2) = .agg (pc (fb (rtF U)) (g)) := hI.val 2 (hD 2 (by decide))
          refine Inv.store_step hok hI hL ⟨none, r, 43, some 3, fun cs => cs.length = 64, fun cs => (Value.agg (List.toArray cs)) = .agg (pc (fb (rtF U)) (g))⟩ (by simp) rfl (by simp) (by intro k hk; cases hk) ?_
          intro n cs hb hR hold
          change n = r at hb
          subst hb
          rw [show readsOf plan_52_13 3 = [(65, 2)] from rfl]
          exact st_P hR hold _ _ rfl rfl h2 fun w' cs' hr he hk => ⟨trivial, hk, cs', hr, he⟩
        · intro L v w hL hD hC hI
          refine ⟨fun _ => ?_, fun hw => by cases hw⟩
          refine hI.val_step hL (by simp) ?_
          rw [show readsOf plan_52_13 4 = [] from rfl]
          first | exact ⟨rfl, Ext.refl _⟩ | (go_simp; exact ⟨rfl, Ext.refl _⟩)
        intro L v7 W7 hL hI
        have N_r : RV W7 r 43 (fun u => u = .agg (pc (fb (rtF U)) (g))) := hI.row_new ⟨none, r, 43, some 3, fun cs => cs.length = 64, fun cs => (Value.agg (List.toArray cs)) = .agg (pc (fb (rtF U)) (g))⟩ (by simp) rfl 3 rfl (hL 3 (by decide))
        replace R_n1 := R_n1.keep hI.keep (by simp [ne_n1_r, Ne.symm ne_n1_r])
        replace R_y5 := R_y5.keep hI.keep (by simp [ne_r_y5, Ne.symm ne_r_y5])
        replace R_x6 := R_x6.keep hI.keep (by simp [ne_r_x6, Ne.symm ne_r_x6])
        replace R_n8 := R_n8.keep hI.keep (by simp [ne_r_n8, Ne.symm ne_r_n8])
        clear R_r
        have R_r := N_r
        clear N_r
        replace lt_n1 := Nat.lt_of_lt_of_le lt_n1 hI.keep.size
        replace lt_r := Nat.lt_of_lt_of_le lt_r hI.keep.size
        replace lt_y5 := Nat.lt_of_lt_of_le lt_y5 hI.keep.size
        replace lt_x6 := Nat.lt_of_lt_of_le lt_x6 hI.keep.size
        replace lt_n8 := Nat.lt_of_lt_of_le lt_n8 hI.keep.size
        have hx' : Ext w W7 := Ext.keep_ hx hI.keep (by simp only [List.forall_mem_cons, List.not_mem_nil, false_implies, implies_true, and_true]; exact bs_r)
        have hs_3_13 : (v7 4) = .nilIface := hI.val 4 (hL 4 (by decide))
        clear hx hI hL hok L
        have hx := hx'
        clear hx'
        simp only [putP, Act.put, List.setIfInBounds_toArray, List.set_cons_zero, List.set_cons_succ, hs_3_13]
        go_wp2
        refine bodyPost_ret (results_P2 rfl _ R_r rfl) rfl ?_
        refine ⟨?_, hx⟩
        rw [hdl.out, decV_some, hyg.out, ← pc_low hlt]
        rfl
end Go.Proofs.Ytndohjgfjbopnaa
