/-
  Texts of the lemmas below the claim, put together: RefS RefT Dec.
-/
import Derived.Test.YtgeihelkkhjjaaaDoorPt
section
/-
  The document's answer of layer 7: numbers of the field; D, on, Is.
-/
set_option linter.unusedSimpArgs false
set_option linter.unusedVariables false
namespace Go.Cv
open Go.RowKit Go.Cv.Pr Go.Cv.Grp
end Go.Cv
namespace Go.Proofs.YtgeihelkkhjjaaaDoor
open Go.RowKit Go.Cv Go.Cv.Pr Go.Cv.Grp Go.Cv.Dig
/-- A number of the field in a slice. -/
def NF (w : World) (v : Value) (x : F7) : Prop := Num w v x.val 11
theorem NF.ext {w w' : World} {v : Value} {x : F7} (h : NF w v x) (hx : Ext w w') : NF w' v x := Num.ext h hx
theorem NF.of {w : World} {v : Value} {k : Nat} (h : Num w v (k % (2 ^ 255 - 19)) 11) : NF w v (tf k) := h
theorem NF.nil (w : World) : NF w (.slice none 0 0) 0 := num_nil w
theorem NF.one (w : World) (t : TypeId) : NF (w.alloc (.cells #[.int .i64 1] t)) (.slice (some ⟨w.heap.size, 0, none⟩) 1 1) 1 := by
  unfold NF
  rw [show (1 : F7).val = 1 from by decide]
  exact num_1 w t
set_option maxHeartbeats 4000000
set_option maxRecDepth 20000
end Go.Proofs.YtgeihelkkhjjaaaDoor
end
section
/-
  The document's answer of layer 7: Is, Root, xOf.
-/
set_option linter.unusedSimpArgs false
set_option linter.unusedVariables false
namespace Go.Cv
open Go.RowKit Go.Cv.Pr Go.Cv.Grp
theorem neg_sq {n : Nat} [NeZero n] (a b : Fin n) (h : a + b = 0) : a * a = b * b := by grind
theorem neg_of {n : Nat} [NeZero n] (a b : Fin n) (h : a + b = 0) : a = 0 - b := by grind
/-- The even root, and whether there is one. -/
def okF (x : F7) : Bool := rtOk x.val
def rtF (x : F7) : F7 := tf (rtv x.val)
theorem okF_sq {x y : F7} (h : y * y = x) : okF x = true := by
  refine rtOk_sq (b := y.val) ?_
  rw [← tf_eq, tf_mul, tf_val, tf_val, h]
theorem rtF_sq {x : F7} (h : okF x = true) : rtF x * rtF x = x := by
  have h1 : Eqp (rtc x.val * rtc x.val) x.val := of_decide_eq_true h
  have h2 := h1.tf
  rw [tf_mul, tf_val] at h2
  rcases rtv_two h1 with h3 | h3
  · have h4 := h3.tf
    unfold rtF
    rw [h4, h2]
  · have h4 := h3.tf
    rw [tf_add, tf_zero] at h4
    rw [← neg_sq _ _ h4] at h2
    exact h2
theorem rtF_even (x : F7) : (rtF x).val % 2 = 0 := rtv_even x.val
theorem rtF_two {x y : F7} (h : y * y = x) : rtF x = y ∨ rtF x = 0 - y := by
  have h1 : Eqp (y.val * y.val) x.val := by rw [← tf_eq, tf_mul, tf_val, tf_val, h]
  rcases rtv_two h1 with h3 | h3
  · left
    have h4 := h3.tf
    rw [tf_val] at h4
    exact h4
  · right
    have h4 := h3.tf
    rw [tf_add, tf_zero, tf_val] at h4
    exact neg_of _ _ h4
theorem neg_val (y : F7) (h : y ≠ 0) : (0 - y).val = pp - y.val := by
  have h1 : y.val ≠ 0 := fun h2 => h (Fin.ext h2)
  have h2 := y.isLt
  rw [Fin.val_sub]
  show (pp - y.val + 0) % pp = _
  rw [Nat.add_zero, Nat.mod_eq_of_lt (by omega)]
theorem neg_odd (y : F7) (h : y ≠ 0) : (0 - y).val % 2 = 1 - y.val % 2 := by
  rw [neg_val y h]
  have h2 := y.isLt
  have h3 : pp % 2 = 1 := by unfold pp; decide
  omega
theorem rtF_is {x y : F7} (h : y * y = x) (he : y.val % 2 = 0) : rtF x = y := by
  rcases rtF_two h with h1 | h1
  · exact h1
  · by_cases h0 : y = 0
    · subst h0
      rw [h1]
      decide
    · have h2 := rtF_even x
      rw [h1, neg_odd y h0] at h2
      omega
end Go.Cv
namespace Go.Proofs.YtgeihelkkhjjaaaDoor
open Go.RowKit Go.Cv Go.Cv.Pr Go.Cv.Grp Go.Cv.Dig
set_option maxHeartbeats 8000000
set_option maxRecDepth 20000
end Go.Proofs.YtgeihelkkhjjaaaDoor
end
section
/-
  The curve's points: the point of 32 bytes.
-/
set_option linter.unusedSimpArgs false
set_option linter.unusedVariables false
namespace Go.Cv
open Go.RowKit Go.Cv.Pr Go.Cv.Grp
/-- The 32 bytes without the highest bit; the number that they tell; the square of x. -/
def decG (b : Nat → UInt8) : Nat → UInt8 := updb b 31 (b 31 &&& 127)
def decY (b : Nat → UInt8) : F7 := tf (V (decG b))
def decU (y : F7) : F7 := (y * y - 1) * fiv (C7.d * (y * y) + 1)
/-- x of 32 bytes, where they are a point's. -/
def decX (b : Nat → UInt8) : Option F7 :=
  if V (decG b) < pp then (if okF (decU (decY b)) = true then (if (b 31 >>> 7 == 1) = true then (if rtF (decU (decY b)) = 0 then none else some (0 - rtF (decU (decY b)))) else some (rtF (decU (decY b)))) else none) else none
theorem low_p (f : Nat → UInt8) : beqb (fb (tf (V f))) f = decide (V f < pp) := by
  have hp : (pp : Nat) < 2 ^ 256 := by unfold pp; decide
  have h0 : 0 < pp := by unfold pp; decide
  have hf : V (nb (V f % pp)) = V f % pp := V_nb (Nat.lt_trans (Nat.mod_lt _ h0) hp)
  show beqb (nb (V f % pp)) f = _
  generalize pp = L at *
  by_cases h : V f < L
  · rw [decide_eq_true h, Nat.mod_eq_of_lt h, beqb_iff]
    exact nb_Vt f
  · rw [decide_eq_false h, Bool.eq_false_iff]
    intro h2
    rw [beqb_iff] at h2
    have h3 : V (nb (V f % L)) = V f := bsum_congr 32 h2
    rw [hf] at h3
    have := Nat.mod_lt (V f) h0
    omega
theorem pc_low {f k : Nat → UInt8} (h : V f < pp) : pc k f = pc k (fb (tf (V f))) := by
  have h1 := low_p f
  rw [decide_eq_true h] at h1
  rw [pc_eq, pc_eq, beqb_bcells h1]
theorem rtOk_tf (a : Nat) : rtOk a = okF (tf a) := by
  have e : Eqp (tf a).val a := by
    show a % pp % (2 ^ 255 - 19) = a % (2 ^ 255 - 19)
    exact Nat.mod_mod _ _
  unfold okF
  cases h1 : rtOk a
  · cases h2 : rtOk (tf a).val
    · rfl
    · exfalso
      have h3 : Eqp (rtc (tf a).val * rtc (tf a).val) (tf a).val := of_decide_eq_true h2
      have h4 := rtOk_sq (h3.trans e)
      rw [h1] at h4; cases h4
  · have h3 : Eqp (rtc a * rtc a) a := of_decide_eq_true h1
    exact (rtOk_sq (h3.trans e.symm)).symm
theorem rtv_tf {a : Nat} (h : rtOk a = true) : tf (rtv a) = rtF (tf a) := by
  have h1 : Eqp (rtc a * rtc a) a := of_decide_eq_true h
  refine (rtF_is ?_ (rtv_even a)).symm
  have h2 := h1.tf
  rw [tf_mul] at h2
  rcases rtv_two h1 with h3 | h3
  · rw [h3.tf, h2]
  · have h4 := h3.tf
    rw [tf_add, tf_zero] at h4
    rw [← neg_sq _ _ h4] at h2
    exact h2
end Go.Cv
namespace Go.Proofs.YtgeihelkkhjjaaaDoor
open Go.RowKit Go.Cv Go.Cv.Pr Go.Cv.Grp
/-- What Decode answers. -/
noncomputable def decV (d : Option F7) (y : F7) : Array Value := match d with | none => #[.agg (pc (fun _ => 0) (fun _ => 0)), errPoint] | some x => #[.agg (pc (fb x) (fb y)), .nilIface]
theorem decV_none (y : F7) : decV none y = #[.agg (pc (fun _ => 0) (fun _ => 0)), errPoint] := rfl
theorem decV_some (x y : F7) : decV (some x) y = #[.agg (pc (fb x) (fb y)), .nilIface] := rfl
/-- The root, where there is one. -/
def isR (u : Value) (ok : Bool) (R : F7) : Prop := ∃ X, isE u X ∧ (ok = true → X = R)
def isRt (u : Value) (ok : Bool) (R : F7) : Prop := ∃ r, u = .tuple #[r, .bool ok] ∧ isR r ok R
theorem RV.isR {w : World} {n : Nat} {T : TypeId} {ok : Bool} {R : F7} (h : RV w n T (fun u => isR u ok R)) : ∃ X, RV w n T (fun u => isE u X) ∧ (ok = true → X = R) := by
  obtain ⟨cs, h1, X, h2, h3⟩ := h
  exact ⟨X, ⟨cs, h1, h2⟩, h3⟩
theorem eroot {u : Value} {x : F7} (hu : isE u x) (w : World) :
    Calls Tryd.prog 51 #[u] w fun e w' => ∃ r, e = .returned r ∧ isRt r (okF x) (rtF x) ∧ Ext w w' := by
  obtain ⟨a, b, c, d, rfl, rfl⟩ := hu
  refine (root_any a b c d w).mono ?_
  rintro e w' ⟨s0, s1, s2, s3, rfl, hs, hx⟩
  refine ⟨_, rfl, ⟨_, by rw [← rtOk_tf], ⟨_, ⟨s0, s1, s2, s3, rfl, rfl⟩, fun h => ?_⟩⟩, hx⟩
  rw [← rtOk_tf] at h
  rw [(rtv_is h hs).tf, rtv_tf h]
def plan_52_0 : List Plan := [⟨[], []⟩, ⟨[], []⟩, ⟨[], []⟩]
def plan_52_3 : List Plan := [⟨[], []⟩, ⟨[0], [(16, 0)]⟩, ⟨[], []⟩, ⟨[0, 1, 2], [(17, 1), (18, 2)]⟩]
def plan_52_4 : List Plan := [⟨[], []⟩, ⟨[], []⟩, ⟨[0], [(20, 0)]⟩, ⟨[0, 1, 2], [(21, 1)]⟩]
def plan_52_5 : List Plan := [⟨[], []⟩, ⟨[0], [(22, 0)]⟩, ⟨[], []⟩, ⟨[0, 1, 2], [(23, 1), (5, 2)]⟩]
def plan_52_6 : List Plan := [⟨[], []⟩, ⟨[], []⟩, ⟨[0, 1], [(24, 0), (25, 1)]⟩, ⟨[0, 1, 2], [(26, 2)]⟩]
def plan_52_7 : List Plan := [⟨[], []⟩, ⟨[], []⟩, ⟨[0, 1], [(28, 0), (29, 1)]⟩, ⟨[0, 1, 2], []⟩, ⟨[], []⟩, ⟨[0, 1, 2, 3, 4], [(31, 3), (32, 4)]⟩, ⟨[], []⟩, ⟨[0, 1, 2, 3, 4, 5, 6], [(33, 5), (34, 6)]⟩, ⟨[0, 1, 2, 3, 4, 5, 6, 7], [(35, 7)]⟩, ⟨[0, 1, 2, 3, 4, 5, 6, 7, 8], [(30, 2), (36, 8)]⟩, ⟨[0, 1, 2, 3, 4, 5, 6, 7, 8, 9], [(37, 9)]⟩, ⟨[0, 1, 2, 3, 4, 5, 6, 7, 8, 9, 10], [(38, 10)]⟩, ⟨[0, 1, 2, 3, 4, 5, 6, 7, 8, 9, 10, 11], [(27, 11)]⟩, ⟨[0, 1, 2, 3, 4, 5, 6, 7, 8, 9, 10, 11], [(27, 11)]⟩, ⟨[], []⟩, ⟨[0, 1, 2, 3, 4, 5, 6, 7, 8, 9, 10, 11, 12, 14], [(39, 12), (6, 14)]⟩, ⟨[0, 1, 2, 3, 4, 5, 6, 7, 8, 9, 10, 11, 12, 13, 14, 15], [(40, 13)]⟩]
def plan_52_8 : List Plan := [⟨[], []⟩, ⟨[0], [(41, 0)]⟩, ⟨[], []⟩, ⟨[0, 1, 2], [(42, 1), (8, 2)]⟩]
def plan_52_10 : List Plan := [⟨[], []⟩, ⟨[], []⟩, ⟨[0], [(55, 0)]⟩, ⟨[0, 1, 2], [(56, 1)]⟩]
def plan_52_12 : List Plan := [⟨[], []⟩, ⟨[], []⟩, ⟨[0, 1], [(60, 0), (61, 1)]⟩, ⟨[0, 1, 2], [(62, 2)]⟩]
def plan_52_13 : List Plan := [⟨[], []⟩, ⟨[], []⟩, ⟨[0, 1], [(63, 0), (64, 1)]⟩, ⟨[0, 1, 2], [(65, 2)]⟩, ⟨[0, 1, 2, 3], []⟩]
set_option maxRecDepth 20000 in
set_option maxHeartbeats 8000000 in
theorem cdec_any (b : Nat → UInt8) (w : World) :
    Calls Tryd.prog 32 #[.agg (bcells b)] w fun e w' => e = .returned (.tuple (decV (decX b) (decY b))) ∧ Ext w w' := by
  have hG := low_p (decG b)
  obtain ⟨g, hg⟩ : ∃ g, g = decG b := ⟨_, rfl⟩
  obtain ⟨y, hy⟩ : ∃ y, y = decY b := ⟨_, rfl⟩
  obtain ⟨o, ho⟩ : ∃ o, o = b 31 >>> 7 := ⟨_, rfl⟩
  obtain ⟨U, hU⟩ : ∃ U, U = decU y := ⟨_, rfl⟩
  have hyg : y = tf (V g) := by rw [hy, hg]; rfl
  obtain ⟨d, hd⟩ : ∃ d, d = decX b := ⟨_, rfl⟩
  rw [← hd, ← hy]
  unfold decX at hd
  rw [← hg, ← hy, ← hU, ← ho] at hd
  rw [← hg] at hG
  have hg' : g = updb b 31 (b 31 &&& 127) := hg
  have hU' : U = (y * y - 1) * fiv (C7.d * (y * y) + 1) := hU
  clear hg hU hy
  replace hg' := Lib.hid hg'
  replace hU' := Lib.hid hU'
  replace hd := Lib.hid hd
  replace ho := Lib.hid ho
  replace hyg := Lib.hid hyg
  replace hG := Lib.hid hG
  go_enter Tryd.func32, Tryd.ntmps32
  have hx : Ext w w := Ext.refl w
  go_upto_region 0 with fail
  have hok : TrsOk [] w.heap.size ([(tk (some 0) 0 22 (none) (fun u => u = .agg (bcells (b))) (fun _ => True)), (tk (some 1) 0 53 (none) (sz 64) (fun _ => True))] : List Trk) := ⟨by simp [tk], by simp [tk], by simp [tk], by simp [tk]⟩
  refine wp_region_text (Inv [] (fun j u => match j with | 2 => u = .nilIface | _ => True) [(tk (some 0) 0 22 (none) (fun u => u = .agg (bcells (b))) (fun _ => True)), (tk (some 1) 0 53 (none) (sz 64) (fun _ => True))] w) plan_52_0 [(1, 0), (2, 1), (3, 2)] 66 rfl (by kernel_rfl) (Inv.start0 hok (by simp)) ⟨?_, ?_, ?_, trivial⟩ ?_
  · exact s_new 0 rfl rfl rfl rfl rfl hok fun L v w D I => give_box (bcells b).toList rfl rfl ⟨trivial, rfl, _, rfl, rfl⟩
  · exact s_new 1 rfl rfl rfl rfl rfl hok fun L v w D I => al_PT rfl fun c h => ⟨trivial, rfl, c, rfl, sz_mk c h⟩
  · exact s_val rfl rfl fun L v w D N I => ⟨rfl, Ext.refl _⟩
  intro L v1 W1 hL hI
  obtain ⟨n1, hb_n1, lo_n1, R_n1⟩ := hI.made0 0 rfl (hL 0 (by decide))
  obtain ⟨r, hb_r, lo_r, R_r⟩ := hI.made0 1 rfl (hL 1 (by decide))
  have ne_n1_r := hI.two 0 1 rfl rfl rfl rfl rfl (hL 0 (by decide)) (hL 1 (by decide)) hb_n1 hb_r
  have bs_n1 := Nat.le_trans hx.size lo_n1
  have lt_n1 := R_n1.lt
  have bs_r := Nat.le_trans hx.size lo_r
  have lt_r := R_r.lt
  replace hx := hx.trans hI.keep.to_ext
  have hs_3_0 : (v1 2) = .nilIface := hI.val 2 (hL 2 (by decide))
  clear hI hL hok L
  simp only [putP, Act.put, List.setIfInBounds_toArray, List.set_cons_zero, List.set_cons_succ, hb_n1, hb_r, hs_3_0]
  have e1 := R_n1.byte (i := 31) (by decide)
  have e3 := R_n1.fro 31
  go_upto_region 3 with fail
  obtain ⟨W4, hW4⟩ : ∃ W4, W4 = W1.setCell ⟨n1, 31, none⟩ (.int .u8 (n8 (b 31 &&& 127))) := ⟨_, rfl⟩
  rw [← hW4]
  have hk : Keep [n1] W1 W4 := by rw [hW4]; exact Keep.setCell _ ⟨n1, 31, none⟩ _
  have R5 := R_n1.set 31 (b 31 &&& 127)
  rw [← hW4, ← hg'.out] at R5
  clear R_n1 e1 e3
  have R_n1 : RV W4 n1 22 (fun u => u = .agg (bcells g)) := R5
  clear R5
  replace R_r := R_r.keep hk (by simp [ne_n1_r, Ne.symm ne_n1_r])
  replace hx := Ext.keep_ hx hk (by simpa using bs_n1)
  clear hW4
  replace lt_n1 := Nat.lt_of_lt_of_le lt_n1 hk.size
  replace lt_r := Nat.lt_of_lt_of_le lt_r hk.size
  clear hk
  rw [← ho.out]
  have hok : TrsOk [] W4.heap.size ([] : List Trk) := ⟨by simp [tk], by simp [tk], by simp [tk], by simp [tk]⟩
  refine wp_region_plan (Inv [] (fun j u => match j with | 0 => u = .agg (bcells (g)) | 1 => u = .agg (bcells (fb (tf (V (g))))) | 2 => u = .agg (bcells (g)) | 3 => u = .bool (!beqb (fb (tf (V (g)))) (g)) | _ => True) [] W4) plan_52_3 [(16, 0), (17, 1), (18, 2), (19, 3)] 66 (by kernel_rfl) rfl (by kernel_rfl) (Inv.start hok (by simp)) ⟨?_, ?_, ?_, ?_, trivial⟩ ?_
  · exact s_val rfl rfl fun L v w D N I => ld_B (R_n1.keep0 I.keep) _ rfl rfl ldK
  · exact s_val rfl rfl fun L v w D N I => gfRed _ _ rfl rfl (calls_eq_ (calls_known (reduceF (g) w)) (ar1 (I.val 0 (D 0 rfl))))
  · exact s_val rfl rfl fun L v w D N I => ld_B (R_n1.keep0 I.keep) _ rfl rfl ldK
  · exact s_val rfl rfl fun L v w D N I => g_neB _ _ _ rfl (I.val 1 (D 1 rfl)) (I.val 2 (D 2 rfl)) ⟨rfl, Ext.refl _⟩
  intro L v2 W2 hL hI
  replace R_n1 := R_n1.keep0 hI.keep
  replace R_r := R_r.keep0 hI.keep
  replace lt_n1 := Nat.lt_of_lt_of_le lt_n1 hI.keep.size
  replace lt_r := Nat.lt_of_lt_of_le lt_r hI.keep.size
  replace hx := hx.trans hI.keep.to_ext
  have hs_19_3 : (v2 3) = .bool (!beqb (fb (tf (V (g)))) (g)) := hI.val 3 (hL 3 (by decide))
  clear hI hL hok L
  simp only [putP, Act.put, List.setIfInBounds_toArray, List.set_cons_zero, List.set_cons_succ, hs_19_3]
  rw [hG.out]
  clear hs_19_3
  by_cases hlt : V g < pp
  rotate_left
  · skip
    have hdd : Hid (d = none) := Lib.hid (by rw [hd.out, if_neg hlt])
    rw [decide_eq_false hlt]
    go_upto_region 4 with fail
    have hok : TrsOk [r] W2.heap.size ([(tk (none) r 53 (some 2) (sz 64) (fun u => u = .agg (pc (fun _ => 0) (fun _ => 0))))] : List Trk) := ⟨by simp [tk, R_r.lt], by simp [tk], by simp [tk], by simp [tk]⟩
    refine wp_region_text (Inv [r] (fun j u => match j with | 0 => u = .agg (pc (fun _ => 0) (fun _ => 0)) | 1 => u = .iface 75 (.int .i64 29) | 3 => u = .iface 75 (.int .i64 29) | _ => True) [(tk (none) r 53 (some 2) (sz 64) (fun u => u = .agg (pc (fun _ => 0) (fun _ => 0))))] W2) plan_52_4 [(20, 0), (21, 1), (3, 3)] 66 rfl (by kernel_rfl) (Inv.start0 hok (by
        simp only [List.forall_mem_cons, List.not_mem_nil, false_implies, implies_true, and_true]
        exact fun _ => R_r)) ⟨?_, ?_, ?_, ?_, trivial⟩ ?_
    · exact s_val rfl rfl fun L v w D N I => give_zeroP rfl ⟨rfl, Ext.refl _⟩
    · intro L v w hL hD hC hI
      refine ⟨fun _ => ?_, fun hw => by cases hw⟩
      refine hI.val_step hL (by simp) ?_
      rw [show readsOf plan_52_4 1 = [] from rfl]
      go_simp
      exact ⟨rfl, Ext.refl _⟩
    · exact s_put 0 rfl rfl rfl rfl rfl hok fun L v w D I cs hR ho => st_P hR (sz_len ho) _ _ rfl rfl (I.val 0 (D 0 rfl)) fun _ c a b k => ⟨trivial, k, c, a, b⟩
    · exact s_val rfl rfl fun L v w D N I => ⟨(I.val 1 (D 1 rfl)), Ext.refl _⟩
    intro L v3 W3 hL hI
    replace R_n1 := R_n1.keep1 hI.keep ne_n1_r
    replace R_r := hI.new 0 rfl (hL 2 (by decide))
    replace lt_n1 := Nat.lt_of_lt_of_le lt_n1 hI.keep.size
    replace lt_r := Nat.lt_of_lt_of_le lt_r hI.keep.size
    replace hx := hx.keep1 hI.keep bs_r
    have hs_3_4 : (v3 3) = .iface 75 (.int .i64 29) := hI.val 3 (hL 3 (by decide))
    clear hI hL hok L
    simp only [putP, Act.put, List.setIfInBounds_toArray, List.set_cons_zero, List.set_cons_succ, hs_3_4]
    go_wp2
    refine bodyPost_ret (results_P2 rfl _ R_r rfl) rfl ?_
    refine ⟨?_, hx⟩
    rw [hdd.out, decV_none]
    rfl
  · have hdl := hd.out
    rw [if_pos hlt] at hdl
    replace hd := Lib.hid hdl
    clear hdl
    rw [decide_eq_true hlt]
    go_upto_region 5 with fail
    have hok : TrsOk [] W2.heap.size ([(tk (some 2) 0 78 (some 3) (sz 4) (fun u => isE u (y)))] : List Trk) := ⟨by simp [tk], by simp [tk], by simp [tk], by simp [tk]⟩
    refine wp_region_text (Inv [] (fun j u => match j with | 0 => u = .agg (bcells (g)) | 1 => isE u (y) | _ => True) [(tk (some 2) 0 78 (some 3) (sz 4) (fun u => isE u (y)))] W2) plan_52_5 [(22, 0), (23, 1), (5, 2)] 66 rfl (by kernel_rfl) (Inv.start0 hok (by simp)) ⟨?_, ?_, ?_, ?_, trivial⟩ ?_
    · exact s_val rfl rfl fun L v w D N I => ld_B (R_n1.keep0 I.keep) _ rfl rfl ldK
    · intro L v w hL hD hC hI
      refine ⟨fun _ => ?_, fun hw => by cases hw⟩
      have h0 : (v 0) = .agg (bcells (g)) := hI.val 0 (hD 0 (by decide))
      refine hI.val_step hL (by simp) ?_
      rw [show readsOf plan_52_5 1 = [(22, 0)] from rfl]
      refine give_call _ _ _ _ rfl rfl Tryd.func45 (by kernel_rfl) (by kernel_rfl) ?_
      refine Calls.mono (by have := ein g w; rwa [← h0, ← hyg.out] at this) ?_
      rintro e w' ⟨r, rfl, hr, hx⟩
      exact ⟨r, rfl, hr, hx⟩
    · exact s_new 0 rfl rfl rfl rfl rfl hok fun L v w D I => al_E rfl fun c h => ⟨trivial, rfl, c, rfl, sz_mk c h⟩
    · exact s_lay 0 2 rfl rfl rfl rfl rfl rfl hok fun L v w D I n cs hb hR ho => st_E hR (sz_len ho) _ _ rfl hb (I.val 1 (D 1 rfl)) fun _ c a b k => ⟨trivial, k, c, a, b⟩
    intro L v3 W3 hL hI
    obtain ⟨y5, hb_y5, lo_y5, R_y5⟩ := hI.made 0 rfl (hL 2 (by decide)) (hL 3 (by decide))
    replace R_n1 := R_n1.keep0 hI.keep
    replace R_r := R_r.keep0 hI.keep
    have ne_n1_y5 := Nat.ne_of_lt (Nat.lt_of_lt_of_le lt_n1 lo_y5)
    have ne_r_y5 := Nat.ne_of_lt (Nat.lt_of_lt_of_le lt_r lo_y5)
    replace lt_n1 := Nat.lt_of_lt_of_le lt_n1 hI.keep.size
    replace lt_r := Nat.lt_of_lt_of_le lt_r hI.keep.size
    have bs_y5 := Nat.le_trans hx.size lo_y5
    have lt_y5 := R_y5.lt
    replace hx := hx.trans hI.keep.to_ext
    clear hI hL hok L
    simp only [putP, Act.put, List.setIfInBounds_toArray, List.set_cons_zero, List.set_cons_succ, hb_y5]
    go_upto_region 6 with fail
    have hok : TrsOk [y5] W3.heap.size ([(tk (none) y5 78 (some 3) (fun u => isE u (y)) (fun u => isE u ((y) * (y))))] : List Trk) := ⟨by simp [tk, R_y5.lt], by simp [tk], by simp [tk], by simp [tk]⟩
    refine wp_region_text (Inv [y5] (fun j u => match j with | 0 => isE u (y) | 1 => isE u (y) | 2 => isE u ((y) * (y)) | _ => True) [(tk (none) y5 78 (some 3) (fun u => isE u (y)) (fun u => isE u ((y) * (y))))] W3) plan_52_6 [(24, 0), (25, 1), (26, 2)] 66 rfl (by kernel_rfl) (Inv.start0 hok (by
        simp only [List.forall_mem_cons, List.not_mem_nil, false_implies, implies_true, and_true]
        exact fun _ => R_y5)) ⟨?_, ?_, ?_, ?_, trivial⟩ ?_
    · exact s_val rfl rfl fun L v w D N I => ld_E (I.old 0 rfl (N 3 rfl)) _ rfl rfl ldK
    · exact s_val rfl rfl fun L v w D N I => ld_E (I.old 0 rfl (N 3 rfl)) _ rfl rfl ldK
    · exact s_val rfl rfl fun L v w D N I => gMul _ _ rfl rfl (emul (I.val 0 (D 0 rfl)) (I.val 1 (D 1 rfl)) w)
    · exact s_put 0 rfl rfl rfl rfl rfl hok fun L v w D I cs hR ho => st_E hR (isE_len ho) _ _ rfl rfl (I.val 2 (D 2 rfl)) fun _ c a b k => ⟨trivial, k, c, a, b⟩
    intro L v4 W4 hL hI
    replace R_n1 := R_n1.keep1 hI.keep ne_n1_y5
    replace R_r := R_r.keep1 hI.keep ne_r_y5
    replace R_y5 := hI.new 0 rfl (hL 3 (by decide))
    replace lt_n1 := Nat.lt_of_lt_of_le lt_n1 hI.keep.size
    replace lt_r := Nat.lt_of_lt_of_le lt_r hI.keep.size
    replace lt_y5 := Nat.lt_of_lt_of_le lt_y5 hI.keep.size
    replace hx := hx.keep1 hI.keep bs_y5
    clear hI hL hok L
    simp only [putP, Act.put, List.setIfInBounds_toArray, List.set_cons_zero, List.set_cons_succ]
    go_upto_region 7 with fail
    have hok : TrsOk [] W4.heap.size ([(tk (some 14) 0 78 (some 15) (sz 4) (fun u => isR u (okF U) (rtF U)))] : List Trk) := ⟨by simp [tk], by simp [tk], by simp [tk], by simp [tk]⟩
    refine wp_region_plan (Inv [] (fun j u => match j with | 0 => isE u ((y) * (y)) | 1 => isE u (1) | 2 => isE u (((y) * (y)) - (1)) | 3 => isE u (C7.d) | 4 => isE u ((y) * (y)) | 5 => isE u ((C7.d) * ((y) * (y))) | 6 => isE u (1) | 7 => isE u (((C7.d) * ((y) * (y))) + (1)) | 8 => isE u (fiv (((C7.d) * ((y) * (y))) + (1))) | 9 => isE u ((((y) * (y)) - (1)) * (fiv (((C7.d) * ((y) * (y))) + (1)))) | 10 => isRt u (okF U) (rtF U) | 11 => isRt u (okF U) (rtF U) | 12 => isR u (okF U) (rtF U) | 13 => u = .bool (okF U) | 16 => u = .bool (okF U) | _ => True) [(tk (some 14) 0 78 (some 15) (sz 4) (fun u => isR u (okF U) (rtF U)))] W4) plan_52_7 [(28, 0), (29, 1), (30, 2), (31, 3), (32, 4), (33, 5), (34, 6), (35, 7), (36, 8), (37, 9), (38, 10), (27, 11), (39, 12), (40, 13), (6, 14), (7, 16)] 66 (by kernel_rfl) rfl (by kernel_rfl) (Inv.start hok (by simp)) ⟨?_, ?_, ?_, ?_, ?_, ?_, ?_, ?_, ?_, ?_, ?_, ?_, ?_, ?_, ?_, ?_, ?_, trivial⟩ ?_
    · exact s_val rfl rfl fun L v w D N I => ld_E (R_y5.keep0 I.keep) _ rfl rfl ldK
    · exact s_val rfl rfl fun L v w D N I => bd_E1 rfl rfl ldK
    · exact s_val rfl rfl fun L v w D N I => gSub _ _ rfl rfl (esub (I.val 0 (D 0 rfl)) (I.val 1 (D 1 rfl)) w)
    · exact s_val rfl rfl fun L v w D N I => gD _ _ rfl rfl (d_any w)
    · exact s_val rfl rfl fun L v w D N I => ld_E (R_y5.keep0 I.keep) _ rfl rfl ldK
    · exact s_val rfl rfl fun L v w D N I => gMul _ _ rfl rfl (emul (I.val 3 (D 3 rfl)) (I.val 4 (D 4 rfl)) w)
    · exact s_val rfl rfl fun L v w D N I => bd_E1 rfl rfl ldK
    · exact s_val rfl rfl fun L v w D N I => gAdd _ _ rfl rfl (eadd (I.val 5 (D 5 rfl)) (I.val 6 (D 6 rfl)) w)
    · exact s_val rfl rfl fun L v w D N I => gInv _ _ rfl rfl (einv (I.val 7 (D 7 rfl)) w)
    · exact s_val rfl rfl fun L v w D N I => gMul _ _ rfl rfl (emul (I.val 2 (D 2 rfl)) (I.val 8 (D 8 rfl)) w)
    · intro L v w hL hD hC hI
      refine ⟨fun _ => ?_, fun hw => by cases hw⟩
      have h9 : isE (v 9) ((((y) * (y)) - (1)) * (fiv (((C7.d) * ((y) * (y))) + (1)))) := hI.val 9 (hD 9 (by decide))
      refine hI.val_step hL (by simp) ?_
      rw [show readsOf plan_52_7 10 = [(37, 9)] from rfl]
      refine give_call _ _ _ _ rfl rfl Tryd.func51 (by kernel_rfl) (by kernel_rfl) ?_
      refine Calls.mono (by have := eroot h9 w; rwa [← hU'.out] at this) ?_
      rintro e w' ⟨r, rfl, hr, hx⟩
      exact ⟨r, rfl, hr, hx⟩
    · exact s_val rfl rfl fun L v w D N I => ⟨(I.val 10 (D 10 rfl)), Ext.refl _⟩
    · intro L v w hL hD hC hI
      refine ⟨fun _ => ?_, fun hw => by cases hw⟩
      have h11 : isRt (v 11) (okF U) (rtF U) := hI.val 11 (hD 11 (by decide))
      refine hI.val_step hL (by simp) ?_
      rw [show readsOf plan_52_7 12 = [(27, 11)] from rfl]
      obtain ⟨r0, hr, hR⟩ := h11
      simp only [putP, Act.put, List.setIfInBounds_toArray, List.set_cons_zero, List.set_cons_succ, hr]
      go_simp
      exact ⟨hR, Ext.refl _⟩
    · intro L v w hL hD hC hI
      refine ⟨fun _ => ?_, fun hw => by cases hw⟩
      have h11 : isRt (v 11) (okF U) (rtF U) := hI.val 11 (hD 11 (by decide))
      refine hI.val_step hL (by simp) ?_
      rw [show readsOf plan_52_7 13 = [(27, 11)] from rfl]
      obtain ⟨r0, hr, hR⟩ := h11
      simp only [putP, Act.put, List.setIfInBounds_toArray, List.set_cons_zero, List.set_cons_succ, hr]
      go_simp
      exact ⟨rfl, Ext.refl _⟩
    · exact s_new 0 rfl rfl rfl rfl rfl hok fun L v w D I => al_E rfl fun c h => ⟨trivial, rfl, c, rfl, sz_mk c h⟩
    · intro L v w hL hD hC hI
      refine ⟨fun _ => ?_, fun hw => by cases hw⟩
      have h12 : isR (v 12) (okF U) (rtF U) := hI.val 12 (hD 12 (by decide))
      refine Inv.store_step hok hI hL (tk (some 14) 0 78 (some 15) (sz 4) (fun u => isR u (okF U) (rtF U))) (by simp) rfl (by simp) (by intro k hk; cases hk; exact hD 14 (by decide)) ?_
      intro n cs hb hR hold
      change v 14 = .pointer (some ⟨n, 0, none⟩) at hb
      rw [show readsOf plan_52_7 15 = [(39, 12), (6, 14)] from rfl]
      obtain ⟨X, hX, hXR⟩ := h12
      exact st_E hR (sz_len hold) _ _ rfl hb hX fun w' cs' hr he hk => ⟨trivial, hk, cs', hr, ⟨X, he, hXR⟩⟩
    · exact s_val rfl rfl fun L v w D N I => ⟨(I.val 13 (D 13 rfl)), Ext.refl _⟩
    intro L v5 W5 hL hI
    obtain ⟨x6, hb_x6, lo_x6, R_x6⟩ := hI.made 0 rfl (hL 14 (by decide)) (hL 15 (by decide))
    replace R_n1 := R_n1.keep0 hI.keep
    replace R_r := R_r.keep0 hI.keep
    replace R_y5 := R_y5.keep0 hI.keep
    have ne_n1_x6 := Nat.ne_of_lt (Nat.lt_of_lt_of_le lt_n1 lo_x6)
    have ne_r_x6 := Nat.ne_of_lt (Nat.lt_of_lt_of_le lt_r lo_x6)
    have ne_y5_x6 := Nat.ne_of_lt (Nat.lt_of_lt_of_le lt_y5 lo_x6)
    replace lt_n1 := Nat.lt_of_lt_of_le lt_n1 hI.keep.size
    replace lt_r := Nat.lt_of_lt_of_le lt_r hI.keep.size
    replace lt_y5 := Nat.lt_of_lt_of_le lt_y5 hI.keep.size
    replace hx := hx.trans hI.keep.to_ext
    have hs_7_7 : (v5 16) = .bool (okF U) := hI.val 16 (hL 16 (by decide))
    clear hI hL hok L
    simp only [putP, Act.put, List.setIfInBounds_toArray, List.set_cons_zero, List.set_cons_succ, hb_x6, hs_7_7]
    obtain ⟨X, R_X, hXR⟩ := RV.isR R_x6
    clear R_x6
    have R_x6 := R_X
    clear R_X
    go_upto_region 8 with fail
    have hok : TrsOk [] W5.heap.size ([(tk (some 2) 0 22 (some 3) (sz 32) (fun u => u = .agg (bcells (fb (X)))))] : List Trk) := ⟨by simp [tk], by simp [tk], by simp [tk], by simp [tk]⟩
    refine wp_region_text (Inv [] (fun j u => match j with | 0 => isE u (X) | 1 => u = .agg (bcells (fb (X))) | _ => True) [(tk (some 2) 0 22 (some 3) (sz 32) (fun u => u = .agg (bcells (fb (X)))))] W5) plan_52_8 [(41, 0), (42, 1), (8, 2)] 66 rfl (by kernel_rfl) (Inv.start0 hok (by simp)) ⟨?_, ?_, ?_, ?_, trivial⟩ ?_
    · exact s_val rfl rfl fun L v w D N I => ld_E (R_x6.keep0 I.keep) _ rfl rfl ldK
    · exact s_val rfl rfl fun L v w D N I => gOut _ _ rfl rfl (calls_known (eout (I.val 0 (D 0 rfl)) w))
    · exact s_new 0 rfl rfl rfl rfl rfl hok fun L v w D I => al_B rfl fun c h => ⟨trivial, rfl, c, rfl, sz_mk c h⟩
    · exact s_lay 0 2 rfl rfl rfl rfl rfl rfl hok fun L v w D I n cs hb hR ho => st_B hR (sz_len ho) _ _ rfl hb (I.val 1 (D 1 rfl)) fun _ c a b k => ⟨trivial, k, c, a, b⟩
    intro L v6 W6 hL hI
    obtain ⟨n8, hb_n8, lo_n8, R_n8⟩ := hI.made 0 rfl (hL 2 (by decide)) (hL 3 (by decide))
    have lt_x6 := R_x6.lt
    replace R_n1 := R_n1.keep0 hI.keep
    replace R_r := R_r.keep0 hI.keep
    replace R_y5 := R_y5.keep0 hI.keep
    replace R_x6 := R_x6.keep0 hI.keep
    have ne_n1_n8 := Nat.ne_of_lt (Nat.lt_of_lt_of_le lt_n1 lo_n8)
    have ne_r_n8 := Nat.ne_of_lt (Nat.lt_of_lt_of_le lt_r lo_n8)
    have ne_y5_n8 := Nat.ne_of_lt (Nat.lt_of_lt_of_le lt_y5 lo_n8)
    have ne_x6_n8 := Nat.ne_of_lt (Nat.lt_of_lt_of_le lt_x6 lo_n8)
    replace lt_n1 := Nat.lt_of_lt_of_le lt_n1 hI.keep.size
    replace lt_r := Nat.lt_of_lt_of_le lt_r hI.keep.size
    replace lt_y5 := Nat.lt_of_lt_of_le lt_y5 hI.keep.size
    have bs_n8 := Nat.le_trans hx.size lo_n8
    have lt_n8 := R_n8.lt
    replace hx := hx.trans hI.keep.to_ext
    clear hI hL hok L
    simp only [putP, Act.put, List.setIfInBounds_toArray, List.set_cons_zero, List.set_cons_succ, hb_n8]
    have o8 := R_n8.opt
    cases hok : okF U
    · skip
      have hdd : Hid (d = none) := Lib.hid (by rw [hd.out, if_neg (by rw [hok]; decide)])
      go_upto_region 10 with fail
      have hok : TrsOk [r] W6.heap.size ([(tk (none) r 53 (some 2) (sz 64) (fun u => u = .agg (pc (fun _ => 0) (fun _ => 0))))] : List Trk) := ⟨by simp [tk, R_r.lt], by simp [tk], by simp [tk], by simp [tk]⟩
      refine wp_region_text (Inv [r] (fun j u => match j with | 0 => u = .agg (pc (fun _ => 0) (fun _ => 0)) | 1 => u = .iface 75 (.int .i64 29) | 3 => u = .iface 75 (.int .i64 29) | _ => True) [(tk (none) r 53 (some 2) (sz 64) (fun u => u = .agg (pc (fun _ => 0) (fun _ => 0))))] W6) plan_52_10 [(55, 0), (56, 1), (3, 3)] 66 rfl (by kernel_rfl) (Inv.start0 hok (by
          simp only [List.forall_mem_cons, List.not_mem_nil, false_implies, implies_true, and_true]
          exact fun _ => R_r)) ⟨?_, ?_, ?_, ?_, trivial⟩ ?_
      · exact s_val rfl rfl fun L v w D N I => give_zeroP rfl ⟨rfl, Ext.refl _⟩
      · intro L v w hL hD hC hI
        refine ⟨fun _ => ?_, fun hw => by cases hw⟩
        refine hI.val_step hL (by simp) ?_
        rw [show readsOf plan_52_10 1 = [] from rfl]
        go_simp
        exact ⟨rfl, Ext.refl _⟩
      · exact s_put 0 rfl rfl rfl rfl rfl hok fun L v w D I cs hR ho => st_P hR (sz_len ho) _ _ rfl rfl (I.val 0 (D 0 rfl)) fun _ c a b k => ⟨trivial, k, c, a, b⟩
      · exact s_val rfl rfl fun L v w D N I => ⟨(I.val 1 (D 1 rfl)), Ext.refl _⟩
      intro L v7 W7 hL hI
      replace R_n1 := R_n1.keep1 hI.keep ne_n1_r
      replace R_y5 := R_y5.keep1 hI.keep (Ne.symm ne_r_y5)
      replace R_x6 := R_x6.keep1 hI.keep (Ne.symm ne_r_x6)
      replace R_n8 := R_n8.keep1 hI.keep (Ne.symm ne_r_n8)
      replace R_r := hI.new 0 rfl (hL 2 (by decide))
      replace lt_n1 := Nat.lt_of_lt_of_le lt_n1 hI.keep.size
      replace lt_r := Nat.lt_of_lt_of_le lt_r hI.keep.size
      replace lt_y5 := Nat.lt_of_lt_of_le lt_y5 hI.keep.size
      replace lt_n8 := Nat.lt_of_lt_of_le lt_n8 hI.keep.size
      replace hx := hx.keep1 hI.keep bs_r
      have hs_3_10 : (v7 3) = .iface 75 (.int .i64 29) := hI.val 3 (hL 3 (by decide))
      clear hI hL hok L
      simp only [putP, Act.put, List.setIfInBounds_toArray, List.set_cons_zero, List.set_cons_succ, hs_3_10]
      go_wp2
      refine bodyPost_ret (results_P2 rfl _ R_r rfl) rfl ?_
      refine ⟨?_, hx⟩
      rw [hdd.out, decV_none]
      rfl
    · have hdl := hd.out
      rw [if_pos hok] at hdl
      obtain rfl := hXR hok
      clear hd hok hXR
      by_cases ho1 : (o == 1) = true
      · rw [if_pos ho1] at hdl
        by_cases hz : rtF U = 0
        · rw [if_pos hz] at hdl
          have hbz : beqb (fb (rtF U)) (fun _ => 0) = true := by rw [← fb_0, beqb_fb, hz]; rfl
          have hdd : Hid (d = none) := Lib.hid hdl
          clear hdl
          go_upto_region 10 with fail
          have hok : TrsOk [r] W6.heap.size ([(tk (none) r 53 (some 2) (sz 64) (fun u => u = .agg (pc (fun _ => 0) (fun _ => 0))))] : List Trk) := ⟨by simp [tk, R_r.lt], by simp [tk], by simp [tk], by simp [tk]⟩
          refine wp_region_text (Inv [r] (fun j u => match j with | 0 => u = .agg (pc (fun _ => 0) (fun _ => 0)) | 1 => u = .iface 75 (.int .i64 29) | 3 => u = .iface 75 (.int .i64 29) | _ => True) [(tk (none) r 53 (some 2) (sz 64) (fun u => u = .agg (pc (fun _ => 0) (fun _ => 0))))] W6) plan_52_10 [(55, 0), (56, 1), (3, 3)] 66 rfl (by kernel_rfl) (Inv.start0 hok (by
              simp only [List.forall_mem_cons, List.not_mem_nil, false_implies, implies_true, and_true]
              exact fun _ => R_r)) ⟨?_, ?_, ?_, ?_, trivial⟩ ?_
          · exact s_val rfl rfl fun L v w D N I => give_zeroP rfl ⟨rfl, Ext.refl _⟩
          · intro L v w hL hD hC hI
            refine ⟨fun _ => ?_, fun hw => by cases hw⟩
            refine hI.val_step hL (by simp) ?_
            rw [show readsOf plan_52_10 1 = [] from rfl]
            go_simp
            exact ⟨rfl, Ext.refl _⟩
          · exact s_put 0 rfl rfl rfl rfl rfl hok fun L v w D I cs hR ho => st_P hR (sz_len ho) _ _ rfl rfl (I.val 0 (D 0 rfl)) fun _ c a b k => ⟨trivial, k, c, a, b⟩
          · exact s_val rfl rfl fun L v w D N I => ⟨(I.val 1 (D 1 rfl)), Ext.refl _⟩
          intro L v7 W7 hL hI
          replace R_n1 := R_n1.keep1 hI.keep ne_n1_r
          replace R_y5 := R_y5.keep1 hI.keep (Ne.symm ne_r_y5)
          replace R_x6 := R_x6.keep1 hI.keep (Ne.symm ne_r_x6)
          replace R_n8 := R_n8.keep1 hI.keep (Ne.symm ne_r_n8)
          replace R_r := hI.new 0 rfl (hL 2 (by decide))
          replace lt_n1 := Nat.lt_of_lt_of_le lt_n1 hI.keep.size
          replace lt_r := Nat.lt_of_lt_of_le lt_r hI.keep.size
          replace lt_y5 := Nat.lt_of_lt_of_le lt_y5 hI.keep.size
          replace lt_n8 := Nat.lt_of_lt_of_le lt_n8 hI.keep.size
          replace hx := hx.keep1 hI.keep bs_r
          have hs_3_10 : (v7 3) = .iface 75 (.int .i64 29) := hI.val 3 (hL 3 (by decide))
          clear hI hL hok L
          simp only [putP, Act.put, List.setIfInBounds_toArray, List.set_cons_zero, List.set_cons_succ, hs_3_10]
          go_wp2
          refine bodyPost_ret (results_P2 rfl _ R_r rfl) rfl ?_
          refine ⟨?_, hx⟩
          rw [hdd.out, decV_none]
          rfl
        · rw [if_neg hz] at hdl
          replace hdl := Lib.hid hdl
          have hbz : beqb (fb (rtF U)) (fun _ => 0) = false := by rw [← fb_0, beqb_fb, decide_eq_false hz]
          go_upto_region 12 with fail
          have hok : TrsOk [n8] W6.heap.size ([(tk (none) n8 22 (some 3) (fun u => u = .agg (bcells (fb (rtF U)))) (fun u => u = .agg (bcells (fb (tf (V (fun _ => 0)) - tf (V (fb (rtF U))))))))] : List Trk) := ⟨by simp [tk, R_n8.lt], by simp [tk], by simp [tk], by simp [tk]⟩
          refine wp_region_text (Inv [n8] (fun j u => match j with | 0 => u = .agg (bcells (fun _ => 0)) | 1 => u = .agg (bcells (fb (rtF U))) | 2 => u = .agg (bcells (fb (tf (V (fun _ => 0)) - tf (V (fb (rtF U)))))) | _ => True) [(tk (none) n8 22 (some 3) (fun u => u = .agg (bcells (fb (rtF U)))) (fun u => u = .agg (bcells (fb (tf (V (fun _ => 0)) - tf (V (fb (rtF U))))))))] W6) plan_52_12 [(60, 0), (61, 1), (62, 2)] 66 rfl (by kernel_rfl) (Inv.start0 hok (by
              simp only [List.forall_mem_cons, List.not_mem_nil, false_implies, implies_true, and_true]
              exact fun _ => R_n8)) ⟨?_, ?_, ?_, ?_, trivial⟩ ?_
          · exact s_val rfl rfl fun L v w D N I => bd_B0 rfl ldK
          · exact s_val rfl rfl fun L v w D N I => ld_B (I.old 0 rfl (N 3 rfl)) _ rfl rfl ldK
          · exact s_val rfl rfl fun L v w D N I => gfSub _ _ rfl rfl (calls_eq_ (calls_known (fsubF (fun _ => 0) (fb (rtF U)) w)) (ar2 (I.val 0 (D 0 rfl)) (I.val 1 (D 1 rfl))))
          · exact s_put 0 rfl rfl rfl rfl rfl hok fun L v w D I cs hR ho => st_B hR (by rw [bL_of ho]; simp) _ _ rfl rfl (I.val 2 (D 2 rfl)) fun _ c a b k => ⟨trivial, k, c, a, b⟩
          intro L v7 W7 hL hI
          replace R_n1 := R_n1.keep1 hI.keep ne_n1_n8
          replace R_r := R_r.keep1 hI.keep ne_r_n8
          replace R_y5 := R_y5.keep1 hI.keep ne_y5_n8
          replace R_x6 := R_x6.keep1 hI.keep ne_x6_n8
          replace R_n8 := hI.new 0 rfl (hL 3 (by decide))
          replace lt_n1 := Nat.lt_of_lt_of_le lt_n1 hI.keep.size
          replace lt_r := Nat.lt_of_lt_of_le lt_r hI.keep.size
          replace lt_y5 := Nat.lt_of_lt_of_le lt_y5 hI.keep.size
          replace lt_n8 := Nat.lt_of_lt_of_le lt_n8 hI.keep.size
          replace hx := hx.keep1 hI.keep bs_n8
          clear hI hL hok L
          simp only [putP, Act.put, List.setIfInBounds_toArray, List.set_cons_zero, List.set_cons_succ]
          go_upto_region 13 with fail
          have hok : TrsOk [r] W7.heap.size ([(tk (none) r 53 (some 3) (sz 64) (fun u => u = .agg (pc (fb (tf (V (fun _ => 0)) - tf (V (fb (rtF U))))) (g))))] : List Trk) := ⟨by simp [tk, R_r.lt], by simp [tk], by simp [tk], by simp [tk]⟩
          refine wp_region_text (Inv [r] (fun j u => match j with | 0 => u = .agg (bcells (fb (tf (V (fun _ => 0)) - tf (V (fb (rtF U)))))) | 1 => u = .agg (bcells (g)) | 2 => u = .agg (pc (fb (tf (V (fun _ => 0)) - tf (V (fb (rtF U))))) (g)) | 4 => u = .nilIface | _ => True) [(tk (none) r 53 (some 3) (sz 64) (fun u => u = .agg (pc (fb (tf (V (fun _ => 0)) - tf (V (fb (rtF U))))) (g))))] W7) plan_52_13 [(63, 0), (64, 1), (65, 2), (3, 4)] 66 rfl (by kernel_rfl) (Inv.start0 hok (by
              simp only [List.forall_mem_cons, List.not_mem_nil, false_implies, implies_true, and_true]
              exact fun _ => R_r)) ⟨?_, ?_, ?_, ?_, ?_, trivial⟩ ?_
          · exact s_val rfl rfl fun L v w D N I => ld_B (R_n8.keep1 I.keep (Ne.symm ne_r_n8)) _ rfl rfl ldK
          · exact s_val rfl rfl fun L v w D N I => ld_B (R_n1.keep1 I.keep ne_n1_r) _ rfl rfl ldK
          · exact s_val rfl rfl fun L v w D N I => bd_P _ _ rfl (I.val 0 (D 0 rfl)) (I.val 1 (D 1 rfl)) ldK
          · exact s_put 0 rfl rfl rfl rfl rfl hok fun L v w D I cs hR ho => st_P hR (sz_len ho) _ _ rfl rfl (I.val 2 (D 2 rfl)) fun _ c a b k => ⟨trivial, k, c, a, b⟩
          · exact s_val rfl rfl fun L v w D N I => ⟨rfl, Ext.refl _⟩
          intro L v8 W8 hL hI
          replace R_n1 := R_n1.keep1 hI.keep ne_n1_r
          replace R_y5 := R_y5.keep1 hI.keep (Ne.symm ne_r_y5)
          replace R_x6 := R_x6.keep1 hI.keep (Ne.symm ne_r_x6)
          replace R_n8 := R_n8.keep1 hI.keep (Ne.symm ne_r_n8)
          replace R_r := hI.new 0 rfl (hL 3 (by decide))
          replace lt_n1 := Nat.lt_of_lt_of_le lt_n1 hI.keep.size
          replace lt_r := Nat.lt_of_lt_of_le lt_r hI.keep.size
          replace lt_y5 := Nat.lt_of_lt_of_le lt_y5 hI.keep.size
          replace lt_n8 := Nat.lt_of_lt_of_le lt_n8 hI.keep.size
          replace hx := hx.keep1 hI.keep bs_r
          have hs_3_13 : (v8 4) = .nilIface := hI.val 4 (hL 4 (by decide))
          clear hI hL hok L
          simp only [putP, Act.put, List.setIfInBounds_toArray, List.set_cons_zero, List.set_cons_succ, hs_3_13]
          go_wp2
          refine bodyPost_ret (results_P2 rfl _ R_r rfl) rfl ?_
          refine ⟨?_, hx⟩
          rw [hdl.out, decV_some, hyg.out, ← pc_low hlt, tf_V_fb, V_z]
          rfl
      · rw [if_neg ho1] at hdl
        have ho2 : (o == 1) = false := by simpa using ho1
        replace hdl := Lib.hid hdl
        go_upto_region 13 with fail
        have hok : TrsOk [r] W6.heap.size ([(tk (none) r 53 (some 3) (sz 64) (fun u => u = .agg (pc (fb (rtF U)) (g))))] : List Trk) := ⟨by simp [tk, R_r.lt], by simp [tk], by simp [tk], by simp [tk]⟩
        refine wp_region_text (Inv [r] (fun j u => match j with | 0 => u = .agg (bcells (fb (rtF U))) | 1 => u = .agg (bcells (g)) | 2 => u = .agg (pc (fb (rtF U)) (g)) | 4 => u = .nilIface | _ => True) [(tk (none) r 53 (some 3) (sz 64) (fun u => u = .agg (pc (fb (rtF U)) (g))))] W6) plan_52_13 [(63, 0), (64, 1), (65, 2), (3, 4)] 66 rfl (by kernel_rfl) (Inv.start0 hok (by
            simp only [List.forall_mem_cons, List.not_mem_nil, false_implies, implies_true, and_true]
            exact fun _ => R_r)) ⟨?_, ?_, ?_, ?_, ?_, trivial⟩ ?_
        · exact s_val rfl rfl fun L v w D N I => ld_B (R_n8.keep1 I.keep (Ne.symm ne_r_n8)) _ rfl rfl ldK
        · exact s_val rfl rfl fun L v w D N I => ld_B (R_n1.keep1 I.keep ne_n1_r) _ rfl rfl ldK
        · exact s_val rfl rfl fun L v w D N I => bd_P _ _ rfl (I.val 0 (D 0 rfl)) (I.val 1 (D 1 rfl)) ldK
        · exact s_put 0 rfl rfl rfl rfl rfl hok fun L v w D I cs hR ho => st_P hR (sz_len ho) _ _ rfl rfl (I.val 2 (D 2 rfl)) fun _ c a b k => ⟨trivial, k, c, a, b⟩
        · exact s_val rfl rfl fun L v w D N I => ⟨rfl, Ext.refl _⟩
        intro L v7 W7 hL hI
        replace R_n1 := R_n1.keep1 hI.keep ne_n1_r
        replace R_y5 := R_y5.keep1 hI.keep (Ne.symm ne_r_y5)
        replace R_x6 := R_x6.keep1 hI.keep (Ne.symm ne_r_x6)
        replace R_n8 := R_n8.keep1 hI.keep (Ne.symm ne_r_n8)
        replace R_r := hI.new 0 rfl (hL 3 (by decide))
        replace lt_n1 := Nat.lt_of_lt_of_le lt_n1 hI.keep.size
        replace lt_r := Nat.lt_of_lt_of_le lt_r hI.keep.size
        replace lt_y5 := Nat.lt_of_lt_of_le lt_y5 hI.keep.size
        replace lt_n8 := Nat.lt_of_lt_of_le lt_n8 hI.keep.size
        replace hx := hx.keep1 hI.keep bs_r
        have hs_3_13 : (v7 4) = .nilIface := hI.val 4 (hL 4 (by decide))
        clear hI hL hok L
        simp only [putP, Act.put, List.setIfInBounds_toArray, List.set_cons_zero, List.set_cons_succ, hs_3_13]
        go_wp2
        refine bodyPost_ret (results_P2 rfl _ R_r rfl) rfl ?_
        refine ⟨?_, hx⟩
        rw [hdl.out, decV_some, hyg.out, ← pc_low hlt]
        rfl
end Go.Proofs.YtgeihelkkhjjaaaDoor
end
