/-
  The curve's points: Is, in, out, nought, plus, double walked.
-/
import Derived.Test.YtgeihelkkhjjaaaDoorStp
set_option linter.unusedSimpArgs false
set_option linter.unusedVariables false
namespace Go.Cv
open Go.RowKit Go.Cv.Pr Go.Cv.Grp
/-- A row of so many cells. -/
def RL (w : World) (n : Nat) (T : TypeId) (k : Nat) : Prop := ∃ cs, Row w n T cs ∧ cs.length = k
theorem RL.keep {bs : List Nat} {w w' : World} {n : Nat} {T : TypeId} {k : Nat} (h : RL w n T k) (hk : Keep bs w w') (hb : n ∉ bs) : RL w' n T k := by
  obtain ⟨cs, h1, h2⟩ := h
  exact ⟨cs, h1.keep hk hb, h2⟩
theorem RL.ext {w w' : World} {n : Nat} {T : TypeId} {k : Nat} (h : RL w n T k) (hx : Ext w w') : RL w' n T k := by
  obtain ⟨cs, h1, h2⟩ := h
  exact ⟨cs, h1.ext hx, h2⟩
theorem RL.lt {w : World} {n : Nat} {T : TypeId} {k : Nat} (h : RL w n T k) : n < w.heap.size := by
  obtain ⟨cs, h1, h2⟩ := h
  exact h1.lt
end Go.Cv
namespace Go.Proofs.YtgeihelkkhjjaaaDoor
open Go.RowKit Go.Cv Go.Cv.Pr Go.Cv.Grp
theorem d_any (w : World) : Calls Tryd.prog 48 #[] w fun e w' => ∃ r, e = .returned r ∧ isE r C7.d ∧ Ext w w' := by
  go_enter Tryd.func48, Tryd.ntmps48
  go_wp2
  refine bodyPost_ret_by (by simp [results, Tryd.results48, go_sem]; rfl) rfl ?_
  exact ⟨_, rfl, ⟨8496970652267935907, 31536524315187371, 10144147576115030168, 5909686906226998899, rfl, rfl⟩, ext_alloc _ _⟩
theorem twice_tf : tf (val4 16993941304535871833 63073048630374742 1841551078520508720 2596001775599221991) = C7.d + C7.d := by
  have h : Eqp (val4 16993941304535871833 63073048630374742 1841551078520508720 2596001775599221991) (dN + dN) := by decide +kernel
  rw [h.tf, tf_add]; rfl
theorem twice_any (w : World) : Calls Tryd.prog 55 #[] w fun e w' => ∃ r, e = .returned r ∧ isE r (C7.d + C7.d) ∧ Ext w w' := by
  go_enter Tryd.func55, Tryd.ntmps55
  go_wp2
  refine bodyPost_ret_by (by simp [results, Tryd.results55, go_sem]; rfl) rfl ?_
  exact ⟨_, rfl, ⟨16993941304535871833, 63073048630374742, 1841551078520508720, 2596001775599221991, rfl, twice_tf⟩, ext_alloc _ _⟩
theorem pc_zero : pc (fun _ => 0) (fun _ => 0) = (List.replicate 64 (Value.int .u8 0)).toArray := by
  unfold pc pcL
  rw [bcells_zero]
  rfl
theorem fill_fold : ∀ (l : List Value) (s off : Nat) (cells : Array Value), (l.zipIdx s).foldl (fun cs (x : Value × Nat) => cs.setIfInBounds (off + x.2) x.1) cells = (cells.toList.take (off + s) ++ (l.take (cells.size - (off + s)) ++ cells.toList.drop (off + s + l.length))).toArray
  | [], s, off, cells => by
    apply Array.ext'
    simp
  | x :: l, s, off, cells => by
    rw [List.zipIdx_cons, List.foldl_cons, fill_fold l (s + 1) off]
    apply Array.ext_getElem?
    intro i
    simp only [Array.toList_setIfInBounds, Array.size_setIfInBounds, List.getElem?_toArray, List.getElem?_append, List.length_take, List.length_set, Array.length_toList, List.getElem?_take, List.getElem?_drop, List.getElem?_set, List.length_cons, List.getElem?_cons]
    grind
theorem zero43 : (Tryd.prog.info? 53).map (fun i => (i.zero.map (·.cells.size))) = some (some 64) := by kernel_rfl
theorem built_two (c1 c2 z : Array Value) (h1 : c1.size = 32) (h2 : c2.size = 32) (hz : z.size = 64) (pl : Nat → Option (Nat × Nat)) (p0 : pl 0 = some (0, 32)) (p1 : pl 1 = some (32, 32)) : Instr.fill pl z [(0, .agg c1), (1, .agg c2)] = some (c1 ++ c2) := by
  have f1 : c1.zipIdx.foldl (fun cs (x : Value × Nat) => cs.setIfInBounds (0 + x.2) x.1) z = (c1.toList ++ z.toList.drop 32).toArray := by
    have := fill_fold c1.toList 0 0 z
    rw [← Array.toList_zipIdx] at this
    rw [← Array.foldl_toList, this]
    congr 1
    simp [h1, hz]
    rw [List.take_of_length_le (by simp [h1])]
  have f2 : c2.zipIdx.foldl (fun cs (x : Value × Nat) => cs.setIfInBounds (32 + x.2) x.1) ((c1.toList ++ z.toList.drop 32).toArray) = c1 ++ c2 := by
    have := fill_fold c2.toList 0 32 ((c1.toList ++ z.toList.drop 32).toArray)
    rw [← Array.toList_zipIdx] at this
    rw [← Array.foldl_toList, this]
    apply Array.ext'
    simp [h1, h2, hz]
    rw [List.take_of_length_le (by simp [h2]), List.drop_of_length_le (by simp [h1, hz])]
    simp
  unfold Instr.fill
  rw [p0]
  simp only [Value.cells, h1, hz]
  simp only [ne_eq, not_true, decide_false, Bool.false_or, decide_eq_true_eq]
  rw [if_neg (by decide)]
  have g1 : (Array.foldl (fun cs x => match x with | (c, j) => cs.setIfInBounds (0 + j) c) z c1.zipIdx) = (c1.toList ++ z.toList.drop 32).toArray := f1
  rw [g1]
  unfold Instr.fill
  rw [p1]
  simp only [Value.cells, h2]
  simp only [ne_eq, not_true, decide_false, Bool.false_or, decide_eq_true_eq]
  rw [if_neg (by simp [h1, hz])]
  have g2 : (Array.foldl (fun cs x => match x with | (c, j) => cs.setIfInBounds (32 + j) c) ((c1.toList ++ z.toList.drop 32).toArray) c2.zipIdx) = c1 ++ c2 := f2
  rw [g2]
  unfold Instr.fill
  rfl
theorem places43 : (Tryd.prog.underlying 53).map (fun d => match d with | .struct fields => (fields.toList.mapM (fun f => (Tryd.prog.info? f.type).map fun i => (f.offset, i.size))) | _ => none) = some (some [(0, 32), (32, 32)]) := by kernel_rfl
theorem built_P (c1 c2 : Array Value) (h1 : c1.size = 32) (h2 : c2.size = 32) (w : World) : (Instr.build 53 #[(0, .agg c1), (1, .agg c2)]).run Tryd.prog w = .ok (.agg (c1 ++ c2)) w := by
  refine run_build w _ _ _ ?_
  unfold Program.built
  have hz := zero43
  have hp := places43
  cases hi : Tryd.prog.info? 53 with
  | none => rw [hi] at hz; cases hz
  | some it =>
    rw [hi] at hz
    simp only [Option.map_some, Option.some.injEq] at hz
    cases hu : Tryd.prog.underlying 53 with
    | none => rw [hu] at hp; cases hp
    | some d =>
      rw [hu] at hp
      simp only [Option.map_some, Option.some.injEq] at hp
      cases d with
      | struct fields =>
        simp only at hp ⊢
        cases hzz : it.zero with
        | none => rw [hzz] at hz; cases hz
        | some z =>
          rw [hzz] at hz
          simp only [Option.map_some, Option.some.injEq] at hz
          rw [hp]
          exact built_two c1 c2 z.cells h1 h2 hz _ rfl rfl
      | _ => cases hp
/-- A point made of its two numbers. -/
theorem bd_P {w : World} {o : Oper} {ev : Operand → Value} {R : Value → World → Prop} {f g : Nat → UInt8} (p q : Operand) (ho : o.op = .build 53 #[(0, p), (1, q)]) (hp : ev p = .agg (bcells f)) (hq : ev q = .agg (bcells g)) (h : ∀ u, u = .agg (pc f g) → R u w) :
    Gives Tryd.prog R ((execOp ev o).run Tryd.prog w) := by
  unfold execOp
  simp only [ho, List.map_toArray, List.map_cons, List.map_nil, hp, hq, Sem.run_bind, Sem.run_pure, built_P _ _ (bcells_size f) (bcells_size g), Result.andThen_ok]
  exact h _ (by rw [pc_eq])
/-- A value that is a point over a denominator. -/
def isP (u : Value) (P : P7) : Prop := ∃ X Y Z T, isW u X Y Z T ∧ Rep X Y Z T P
def plan_29_0 : List Plan := [⟨[], []⟩, ⟨[], []⟩]
def plan_29_1 : List Plan := [⟨[], []⟩, ⟨[0], [(5, 0)]⟩, ⟨[0, 1], [(6, 1)]⟩, ⟨[], []⟩, ⟨[3], [(8, 3)]⟩, ⟨[0, 1, 2, 3, 4], [(9, 4)]⟩, ⟨[], []⟩, ⟨[], []⟩, ⟨[0, 1, 2, 3, 4, 5, 6, 7], [(7, 2), (3, 6)]⟩, ⟨[0, 1, 2, 3, 4, 5, 6, 7, 8], [(10, 5), (4, 7)]⟩]
def plan_29_2 : List Plan := [⟨[], []⟩, ⟨[], []⟩, ⟨[0, 1], [(11, 0), (12, 1)]⟩, ⟨[], []⟩, ⟨[], []⟩, ⟨[0, 1, 2, 3, 4], [(14, 3), (15, 4)]⟩, ⟨[0, 1, 2, 3, 4, 5], [(13, 2)]⟩, ⟨[0, 1, 2, 3, 4, 5, 6], [(16, 5)]⟩]
def plan_29_3 : List Plan := [⟨[], []⟩, ⟨[], []⟩, ⟨[0, 1], [(17, 0), (18, 1)]⟩, ⟨[0, 1, 2], [(19, 2)]⟩, ⟨[], []⟩, ⟨[0, 1, 2, 3], []⟩, ⟨[], []⟩, ⟨[0, 1, 2, 3, 5, 6], [(22, 5), (23, 6)]⟩, ⟨[], []⟩, ⟨[0, 1, 2, 3, 5, 6, 7, 8], [(24, 7), (25, 8)]⟩, ⟨[0, 1, 2, 3, 4, 5, 6, 7, 8, 9], [(21, 4), (26, 9)]⟩, ⟨[0, 1, 2, 3, 4, 5, 6, 7, 8, 9, 10], [(27, 10)]⟩, ⟨[0, 1, 2, 3, 4, 5, 6, 7, 8, 9, 10, 11], [(20, 3), (28, 11)]⟩, ⟨[0, 1, 2, 3, 4, 5, 6, 7, 8, 9, 10, 11, 12], [(29, 12)]⟩]
set_option maxRecDepth 20000 in
set_option maxHeartbeats 8000000 in
theorem is_any (f g : Nat → UInt8) (w : World) :
    Calls Tryd.prog 36 #[.agg (pc f g)] w fun e w' => e = .returned (.bool (decide (tf (V g) * tf (V g) - tf (V f) * tf (V f) = 1 + C7.d * (tf (V f) * tf (V f)) * (tf (V g) * tf (V g))))) ∧ Ext w w' := by
  go_enter Tryd.func36, Tryd.ntmps36
  have hx : Ext w w := Ext.refl w
  go_upto_region 0 with fail
  have hok : TrsOk [] w.heap.size ([(tk (some 0) 0 53 (none) (fun u => u = .agg (pc (f) (g))) (fun _ => True))] : List Trk) := ⟨by simp [tk], by simp [tk], by simp [tk], by simp [tk]⟩
  refine wp_region_text (Inv [] (fun j u => match j with | 1 => u = .bool false | _ => True) [(tk (some 0) 0 53 (none) (fun u => u = .agg (pc (f) (g))) (fun _ => True))] w) plan_29_0 [(1, 0), (2, 1)] 30 rfl (by kernel_rfl) (Inv.start0 hok (by simp)) ⟨?_, ?_, trivial⟩ ?_
  · exact s_new 0 rfl rfl rfl rfl rfl hok fun L v w D I => give_box (pcL f g) rfl rfl ⟨trivial, rfl, _, rfl, rfl⟩
  · exact s_val rfl rfl fun L v w D N I => ⟨rfl, Ext.refl _⟩
  intro L v1 W1 hL hI
  obtain ⟨b, hb_b, lo_b, R_b⟩ := hI.made0 0 rfl (hL 0 (by decide))
  replace hx := hx.trans hI.keep.to_ext
  have hs_2_0 : (v1 1) = .bool false := hI.val 1 (hL 1 (by decide))
  clear hI hL hok L
  simp only [putP, Act.put, List.setIfInBounds_toArray, List.set_cons_zero, List.set_cons_succ, hb_b, hs_2_0]
  go_upto_region 1 with fail
  have hok : TrsOk [] W1.heap.size ([(tk (some 6) 0 78 (some 8) (sz 4) (fun u => isE u (tf (V (f))))), (tk (some 7) 0 78 (some 9) (sz 4) (fun u => isE u (tf (V (g)))))] : List Trk) := ⟨by simp [tk], by simp [tk], by simp [tk], by simp [tk]⟩
  refine wp_region_plan (Inv [] (fun j u => match j with | 0 => u = .pointer (some ⟨b, 0, none⟩) | 1 => u = .agg (bcells (f)) | 2 => isE u (tf (V (f))) | 3 => u = .pointer (some ⟨b, 32, none⟩) | 4 => u = .agg (bcells (g)) | 5 => isE u (tf (V (g))) | _ => True) [(tk (some 6) 0 78 (some 8) (sz 4) (fun u => isE u (tf (V (f))))), (tk (some 7) 0 78 (some 9) (sz 4) (fun u => isE u (tf (V (g)))))] W1) plan_29_1 [(5, 0), (6, 1), (7, 2), (8, 3), (9, 4), (10, 5), (3, 6), (4, 7)] 30 (by kernel_rfl) rfl (by kernel_rfl) (Inv.start hok (by simp)) ⟨?_, ?_, ?_, ?_, ?_, ?_, ?_, ?_, ?_, ?_, trivial⟩ ?_
  · exact s_val rfl rfl fun L v w D N I => give_fa rfl rfl fPT0 ⟨rfl, Ext.refl _⟩
  · exact s_val rfl rfl fun L v w D N I => ld_Px (R_b.keep0 I.keep) _ rfl (I.val 0 (D 0 rfl)) ldK
  · exact s_val rfl rfl fun L v w D N I => gEIn _ _ rfl rfl (calls_eq_ (ein (f) w) (ar1 (I.val 1 (D 1 rfl))))
  · exact s_val rfl rfl fun L v w D N I => give_fa rfl rfl fPT1 ⟨rfl, Ext.refl _⟩
  · exact s_val rfl rfl fun L v w D N I => ld_Py (R_b.keep0 I.keep) _ rfl (I.val 3 (D 3 rfl)) ldK
  · exact s_val rfl rfl fun L v w D N I => gEIn _ _ rfl rfl (calls_eq_ (ein (g) w) (ar1 (I.val 4 (D 4 rfl))))
  · exact s_new 0 rfl rfl rfl rfl rfl hok fun L v w D I => al_E rfl fun c h => ⟨trivial, rfl, c, rfl, sz_mk c h⟩
  · exact s_new 1 rfl rfl rfl rfl rfl hok fun L v w D I => al_E rfl fun c h => ⟨trivial, rfl, c, rfl, sz_mk c h⟩
  · exact s_lay 0 6 rfl rfl rfl rfl rfl rfl hok fun L v w D I n cs hb hR ho => st_E hR (sz_len ho) _ _ rfl hb (I.val 2 (D 2 rfl)) fun _ c a b k => ⟨trivial, k, c, a, b⟩
  · exact s_lay 1 7 rfl rfl rfl rfl rfl rfl hok fun L v w D I n cs hb hR ho => st_E hR (sz_len ho) _ _ rfl hb (I.val 5 (D 5 rfl)) fun _ c a b k => ⟨trivial, k, c, a, b⟩
  intro L v2 W2 hL hI
  obtain ⟨n3, hb_n3, lo_n3, R_n3⟩ := hI.made 0 rfl (hL 6 (by decide)) (hL 8 (by decide))
  obtain ⟨n4, hb_n4, lo_n4, R_n4⟩ := hI.made 1 rfl (hL 7 (by decide)) (hL 9 (by decide))
  have lt_b := R_b.lt
  replace R_b := R_b.keep0 hI.keep
  have ne_n3_n4 := hI.two 0 1 rfl rfl rfl rfl rfl (hL 6 (by decide)) (hL 7 (by decide)) hb_n3 hb_n4
  have ne_b_n3 := Nat.ne_of_lt (Nat.lt_of_lt_of_le lt_b lo_n3)
  have ne_b_n4 := Nat.ne_of_lt (Nat.lt_of_lt_of_le lt_b lo_n4)
  have bs_n3 := Nat.le_trans hx.size lo_n3
  have lt_n3 := R_n3.lt
  have bs_n4 := Nat.le_trans hx.size lo_n4
  have lt_n4 := R_n4.lt
  replace hx := hx.trans hI.keep.to_ext
  clear hI hL hok L
  simp only [putP, Act.put, List.setIfInBounds_toArray, List.set_cons_zero, List.set_cons_succ, hb_n3, hb_n4]
  go_upto_region 2 with fail
  have hok : TrsOk [n3, n4] W2.heap.size ([(tk (none) n3 78 (some 6) (fun u => isE u (tf (V (f)))) (fun u => isE u ((tf (V (f))) * (tf (V (f)))))), (tk (none) n4 78 (some 7) (fun u => isE u (tf (V (g)))) (fun u => isE u ((tf (V (g))) * (tf (V (g))))))] : List Trk) := ⟨by simp [tk, R_n3.lt, R_n4.lt], by simp [tk, ne_n3_n4, Ne.symm ne_n3_n4], by simp [tk], by simp [tk]⟩
  refine wp_region_plan (Inv [n3, n4] (fun j u => match j with | 0 => isE u (tf (V (f))) | 1 => isE u (tf (V (f))) | 2 => isE u ((tf (V (f))) * (tf (V (f)))) | 3 => isE u (tf (V (g))) | 4 => isE u (tf (V (g))) | 5 => isE u ((tf (V (g))) * (tf (V (g)))) | _ => True) [(tk (none) n3 78 (some 6) (fun u => isE u (tf (V (f)))) (fun u => isE u ((tf (V (f))) * (tf (V (f)))))), (tk (none) n4 78 (some 7) (fun u => isE u (tf (V (g)))) (fun u => isE u ((tf (V (g))) * (tf (V (g))))))] W2) plan_29_2 [(11, 0), (12, 1), (13, 2), (14, 3), (15, 4), (16, 5)] 30 (by kernel_rfl) rfl (by kernel_rfl) (Inv.start hok (by
      simp only [List.forall_mem_cons, List.not_mem_nil, false_implies, implies_true, and_true]
      refine ⟨fun _ => R_n3, fun _ => R_n4⟩)) ⟨?_, ?_, ?_, ?_, ?_, ?_, ?_, ?_, trivial⟩ ?_
  · exact s_val rfl rfl fun L v w D N I => ld_E (I.old 0 rfl (N 6 rfl)) _ rfl rfl ldK
  · exact s_val rfl rfl fun L v w D N I => ld_E (I.old 0 rfl (N 6 rfl)) _ rfl rfl ldK
  · exact s_val rfl rfl fun L v w D N I => gMul _ _ rfl rfl (emul (I.val 0 (D 0 rfl)) (I.val 1 (D 1 rfl)) w)
  · exact s_val rfl rfl fun L v w D N I => ld_E (I.old 1 rfl (N 7 rfl)) _ rfl rfl ldK
  · exact s_val rfl rfl fun L v w D N I => ld_E (I.old 1 rfl (N 7 rfl)) _ rfl rfl ldK
  · exact s_val rfl rfl fun L v w D N I => gMul _ _ rfl rfl (emul (I.val 3 (D 3 rfl)) (I.val 4 (D 4 rfl)) w)
  · exact s_put 0 rfl rfl rfl rfl rfl hok fun L v w D I cs hR ho => st_E hR (isE_len ho) _ _ rfl rfl (I.val 2 (D 2 rfl)) fun _ c a b k => ⟨trivial, k, c, a, b⟩
  · exact s_put 1 rfl rfl rfl rfl rfl hok fun L v w D I cs hR ho => st_E hR (isE_len ho) _ _ rfl rfl (I.val 5 (D 5 rfl)) fun _ c a b k => ⟨trivial, k, c, a, b⟩
  intro L v3 W3 hL hI
  replace R_b := R_b.keep hI.keep (by simp [ne_b_n3, Ne.symm ne_b_n3, ne_b_n4, Ne.symm ne_b_n4])
  replace R_n3 := hI.new 0 rfl (hL 6 (by decide))
  replace R_n4 := hI.new 1 rfl (hL 7 (by decide))
  replace lt_n3 := Nat.lt_of_lt_of_le lt_n3 hI.keep.size
  replace lt_n4 := Nat.lt_of_lt_of_le lt_n4 hI.keep.size
  replace hx := hx.keep_ hI.keep (by simp only [List.forall_mem_cons, List.not_mem_nil, false_implies, implies_true, and_true]; exact ⟨bs_n3, bs_n4⟩)
  clear hI hL hok L
  simp only [putP, Act.put, List.setIfInBounds_toArray, List.set_cons_zero, List.set_cons_succ]
  go_upto_region 3 with fail
  have hok : TrsOk [] W3.heap.size ([] : List Trk) := ⟨by simp [tk], by simp [tk], by simp [tk], by simp [tk]⟩
  refine wp_region_plan (Inv [] (fun j u => match j with | 0 => isE u ((tf (V (g))) * (tf (V (g)))) | 1 => isE u ((tf (V (f))) * (tf (V (f)))) | 2 => isE u (((tf (V (g))) * (tf (V (g)))) - ((tf (V (f))) * (tf (V (f))))) | 3 => u = .agg (bcells (fb (((tf (V (g))) * (tf (V (g)))) - ((tf (V (f))) * (tf (V (f))))))) | 4 => isE u (1) | 5 => isE u (C7.d) | 6 => isE u ((tf (V (f))) * (tf (V (f)))) | 7 => isE u ((C7.d) * ((tf (V (f))) * (tf (V (f))))) | 8 => isE u ((tf (V (g))) * (tf (V (g)))) | 9 => isE u (((C7.d) * ((tf (V (f))) * (tf (V (f))))) * ((tf (V (g))) * (tf (V (g))))) | 10 => isE u ((1) + (((C7.d) * ((tf (V (f))) * (tf (V (f))))) * ((tf (V (g))) * (tf (V (g)))))) | 11 => u = .agg (bcells (fb ((1) + (((C7.d) * ((tf (V (f))) * (tf (V (f))))) * ((tf (V (g))) * (tf (V (g)))))))) | 12 => u = .bool (beqb (fb (((tf (V (g))) * (tf (V (g)))) - ((tf (V (f))) * (tf (V (f)))))) (fb ((1) + (((C7.d) * ((tf (V (f))) * (tf (V (f))))) * ((tf (V (g))) * (tf (V (g)))))))) | 13 => u = .bool (beqb (fb (((tf (V (g))) * (tf (V (g)))) - ((tf (V (f))) * (tf (V (f)))))) (fb ((1) + (((C7.d) * ((tf (V (f))) * (tf (V (f))))) * ((tf (V (g))) * (tf (V (g)))))))) | _ => True) [] W3) plan_29_3 [(17, 0), (18, 1), (19, 2), (20, 3), (21, 4), (22, 5), (23, 6), (24, 7), (25, 8), (26, 9), (27, 10), (28, 11), (29, 12), (2, 13)] 30 (by kernel_rfl) rfl (by kernel_rfl) (Inv.start hok (by simp)) ⟨?_, ?_, ?_, ?_, ?_, ?_, ?_, ?_, ?_, ?_, ?_, ?_, ?_, ?_, trivial⟩ ?_
  · exact s_val rfl rfl fun L v w D N I => ld_E (R_n4.keep0 I.keep) _ rfl rfl ldK
  · exact s_val rfl rfl fun L v w D N I => ld_E (R_n3.keep0 I.keep) _ rfl rfl ldK
  · exact s_val rfl rfl fun L v w D N I => gSub _ _ rfl rfl (esub (I.val 0 (D 0 rfl)) (I.val 1 (D 1 rfl)) w)
  · exact s_val rfl rfl fun L v w D N I => gOut _ _ rfl rfl (calls_known (eout (I.val 2 (D 2 rfl)) w))
  · exact s_val rfl rfl fun L v w D N I => bd_E1 rfl rfl ldK
  · exact s_val rfl rfl fun L v w D N I => gD _ _ rfl rfl (d_any w)
  · exact s_val rfl rfl fun L v w D N I => ld_E (R_n3.keep0 I.keep) _ rfl rfl ldK
  · exact s_val rfl rfl fun L v w D N I => gMul _ _ rfl rfl (emul (I.val 5 (D 5 rfl)) (I.val 6 (D 6 rfl)) w)
  · exact s_val rfl rfl fun L v w D N I => ld_E (R_n4.keep0 I.keep) _ rfl rfl ldK
  · exact s_val rfl rfl fun L v w D N I => gMul _ _ rfl rfl (emul (I.val 7 (D 7 rfl)) (I.val 8 (D 8 rfl)) w)
  · exact s_val rfl rfl fun L v w D N I => gAdd _ _ rfl rfl (eadd (I.val 4 (D 4 rfl)) (I.val 9 (D 9 rfl)) w)
  · exact s_val rfl rfl fun L v w D N I => gOut _ _ rfl rfl (calls_known (eout (I.val 10 (D 10 rfl)) w))
  · exact s_val rfl rfl fun L v w D N I => g_eqB _ _ _ rfl (I.val 3 (D 3 rfl)) (I.val 11 (D 11 rfl)) ⟨rfl, Ext.refl _⟩
  · exact s_val rfl rfl fun L v w D N I => ⟨(I.val 12 (D 12 rfl)), Ext.refl _⟩
  intro L v4 W4 hL hI
  replace R_b := R_b.keep0 hI.keep
  replace R_n3 := R_n3.keep0 hI.keep
  replace R_n4 := R_n4.keep0 hI.keep
  replace lt_n3 := Nat.lt_of_lt_of_le lt_n3 hI.keep.size
  replace lt_n4 := Nat.lt_of_lt_of_le lt_n4 hI.keep.size
  replace hx := hx.trans hI.keep.to_ext
  have hs_2_3 : (v4 13) = .bool (beqb (fb (((tf (V (g))) * (tf (V (g)))) - ((tf (V (f))) * (tf (V (f)))))) (fb ((1) + (((C7.d) * ((tf (V (f))) * (tf (V (f))))) * ((tf (V (g))) * (tf (V (g)))))))) := hI.val 13 (hL 13 (by decide))
  clear hI hL hok L
  simp only [putP, Act.put, List.setIfInBounds_toArray, List.set_cons_zero, List.set_cons_succ, hs_2_3]
  go_wp2
  go_ret
  refine ⟨?_, hx⟩
  rw [beqb_fb]
  rfl
def plan_82_0 : List Plan := [⟨[], []⟩, ⟨[], []⟩]
def plan_82_1 : List Plan := [⟨[], []⟩, ⟨[0], [(5, 0)]⟩, ⟨[0, 1], [(6, 1)]⟩, ⟨[], []⟩, ⟨[3], [(8, 3)]⟩, ⟨[0, 1, 2, 3, 4], [(9, 4)]⟩, ⟨[], []⟩, ⟨[], []⟩, ⟨[0, 1, 2, 3, 4, 5, 6, 7], [(7, 2), (3, 6)]⟩, ⟨[0, 1, 2, 3, 4, 5, 6, 7, 8], [(10, 5), (4, 7)]⟩]
def plan_82_2 : List Plan := [⟨[], []⟩, ⟨[], []⟩, ⟨[0, 1], [(11, 0), (12, 1)]⟩, ⟨[], []⟩, ⟨[], []⟩, ⟨[], []⟩, ⟨[4, 5], [(15, 4), (16, 5)]⟩, ⟨[0, 1, 2, 3, 4, 5, 6], [(13, 2), (14, 3), (17, 6)]⟩, ⟨[0, 1, 2, 3, 4, 5, 6, 7], [(18, 7)]⟩]
set_option maxRecDepth 20000 in
set_option maxHeartbeats 8000000 in
theorem cin_any (f g : Nat → UInt8) (w : World) :
    Calls Tryd.prog 39 #[.agg (pc f g)] w fun e w' => ∃ r, e = .returned r ∧ isW r (tf (V f)) (tf (V g)) 1 (tf (V f) * tf (V g)) ∧ Ext w w' := by
  go_enter Tryd.func39, Tryd.ntmps39
  have hx : Ext w w := Ext.refl w
  go_upto_region 0 with fail
  have hok : TrsOk [] w.heap.size ([(tk (some 0) 0 53 (none) (fun u => u = .agg (pc (f) (g))) (fun _ => True)), (tk (some 1) 0 82 (none) (sz 16) (fun _ => True))] : List Trk) := ⟨by simp [tk], by simp [tk], by simp [tk], by simp [tk]⟩
  refine wp_region_text (Inv [] (fun _ _ => True) [(tk (some 0) 0 53 (none) (fun u => u = .agg (pc (f) (g))) (fun _ => True)), (tk (some 1) 0 82 (none) (sz 16) (fun _ => True))] w) plan_82_0 [(1, 0), (2, 1)] 19 rfl (by kernel_rfl) (Inv.start0 hok (by simp)) ⟨?_, ?_, trivial⟩ ?_
  · exact s_new 0 rfl rfl rfl rfl rfl hok fun L v w D I => give_box (pcL f g) rfl rfl ⟨trivial, rfl, _, rfl, rfl⟩
  · exact s_new 1 rfl rfl rfl rfl rfl hok fun L v w D I => al_W rfl fun c h => ⟨trivial, rfl, c, rfl, sz_mk c h⟩
  intro L v1 W1 hL hI
  obtain ⟨b, hb_b, lo_b, R_b⟩ := hI.made0 0 rfl (hL 0 (by decide))
  obtain ⟨r, hb_r, lo_r, R_r⟩ := hI.made0 1 rfl (hL 1 (by decide))
  have ne_b_r := hI.two 0 1 rfl rfl rfl rfl rfl (hL 0 (by decide)) (hL 1 (by decide)) hb_b hb_r
  have bs_r := Nat.le_trans hx.size lo_r
  have lt_r := R_r.lt
  replace hx := hx.trans hI.keep.to_ext
  clear hI hL hok L
  simp only [putP, Act.put, List.setIfInBounds_toArray, List.set_cons_zero, List.set_cons_succ, hb_b, hb_r]
  go_upto_region 1 with fail
  have hok : TrsOk [] W1.heap.size ([(tk (some 6) 0 78 (some 8) (sz 4) (fun u => isE u (tf (V (f))))), (tk (some 7) 0 78 (some 9) (sz 4) (fun u => isE u (tf (V (g)))))] : List Trk) := ⟨by simp [tk], by simp [tk], by simp [tk], by simp [tk]⟩
  refine wp_region_plan (Inv [] (fun j u => match j with | 0 => u = .pointer (some ⟨b, 0, none⟩) | 1 => u = .agg (bcells (f)) | 2 => isE u (tf (V (f))) | 3 => u = .pointer (some ⟨b, 32, none⟩) | 4 => u = .agg (bcells (g)) | 5 => isE u (tf (V (g))) | _ => True) [(tk (some 6) 0 78 (some 8) (sz 4) (fun u => isE u (tf (V (f))))), (tk (some 7) 0 78 (some 9) (sz 4) (fun u => isE u (tf (V (g)))))] W1) plan_82_1 [(5, 0), (6, 1), (7, 2), (8, 3), (9, 4), (10, 5), (3, 6), (4, 7)] 19 (by kernel_rfl) rfl (by kernel_rfl) (Inv.start hok (by simp)) ⟨?_, ?_, ?_, ?_, ?_, ?_, ?_, ?_, ?_, ?_, trivial⟩ ?_
  · exact s_val rfl rfl fun L v w D N I => give_fa rfl rfl fPT0 ⟨rfl, Ext.refl _⟩
  · exact s_val rfl rfl fun L v w D N I => ld_Px (R_b.keep0 I.keep) _ rfl (I.val 0 (D 0 rfl)) ldK
  · exact s_val rfl rfl fun L v w D N I => gEIn _ _ rfl rfl (calls_eq_ (ein (f) w) (ar1 (I.val 1 (D 1 rfl))))
  · exact s_val rfl rfl fun L v w D N I => give_fa rfl rfl fPT1 ⟨rfl, Ext.refl _⟩
  · exact s_val rfl rfl fun L v w D N I => ld_Py (R_b.keep0 I.keep) _ rfl (I.val 3 (D 3 rfl)) ldK
  · exact s_val rfl rfl fun L v w D N I => gEIn _ _ rfl rfl (calls_eq_ (ein (g) w) (ar1 (I.val 4 (D 4 rfl))))
  · exact s_new 0 rfl rfl rfl rfl rfl hok fun L v w D I => al_E rfl fun c h => ⟨trivial, rfl, c, rfl, sz_mk c h⟩
  · exact s_new 1 rfl rfl rfl rfl rfl hok fun L v w D I => al_E rfl fun c h => ⟨trivial, rfl, c, rfl, sz_mk c h⟩
  · exact s_lay 0 6 rfl rfl rfl rfl rfl rfl hok fun L v w D I n cs hb hR ho => st_E hR (sz_len ho) _ _ rfl hb (I.val 2 (D 2 rfl)) fun _ c a b k => ⟨trivial, k, c, a, b⟩
  · exact s_lay 1 7 rfl rfl rfl rfl rfl rfl hok fun L v w D I n cs hb hR ho => st_E hR (sz_len ho) _ _ rfl hb (I.val 5 (D 5 rfl)) fun _ c a b k => ⟨trivial, k, c, a, b⟩
  intro L v2 W2 hL hI
  obtain ⟨n3, hb_n3, lo_n3, R_n3⟩ := hI.made 0 rfl (hL 6 (by decide)) (hL 8 (by decide))
  obtain ⟨n4, hb_n4, lo_n4, R_n4⟩ := hI.made 1 rfl (hL 7 (by decide)) (hL 9 (by decide))
  replace R_b := R_b.keep0 hI.keep
  replace R_r := R_r.keep0 hI.keep
  have ne_r_n3 := Nat.ne_of_lt (Nat.lt_of_lt_of_le lt_r lo_n3)
  have ne_r_n4 := Nat.ne_of_lt (Nat.lt_of_lt_of_le lt_r lo_n4)
  replace lt_r := Nat.lt_of_lt_of_le lt_r hI.keep.size
  replace hx := hx.trans hI.keep.to_ext
  clear hI hL hok L
  simp only [putP, Act.put, List.setIfInBounds_toArray, List.set_cons_zero, List.set_cons_succ, hb_n3, hb_n4]
  go_upto_region 2 with fail
  have hok : TrsOk [r] W2.heap.size ([(tk (none) r 82 (some 8) (sz 16) (fun u => isW u (tf (V (f))) (tf (V (g))) (1) ((tf (V (f))) * (tf (V (g))))))] : List Trk) := ⟨by simp [tk, R_r.lt], by simp [tk], by simp [tk], by simp [tk]⟩
  refine wp_region_plan (Inv [r] (fun j u => match j with | 0 => isE u (tf (V (f))) | 1 => isE u (tf (V (g))) | 2 => isFl u (tf (V (f))) (tf (V (g))) | 3 => isE u (1) | 4 => isE u (tf (V (f))) | 5 => isE u (tf (V (g))) | 6 => isE u ((tf (V (f))) * (tf (V (g)))) | 7 => isW u (tf (V (f))) (tf (V (g))) (1) ((tf (V (f))) * (tf (V (g)))) | _ => True) [(tk (none) r 82 (some 8) (sz 16) (fun u => isW u (tf (V (f))) (tf (V (g))) (1) ((tf (V (f))) * (tf (V (g))))))] W2) plan_82_2 [(11, 0), (12, 1), (13, 2), (14, 3), (15, 4), (16, 5), (17, 6), (18, 7)] 19 (by kernel_rfl) rfl (by kernel_rfl) (Inv.start hok (by
      simp only [List.forall_mem_cons, List.not_mem_nil, false_implies, implies_true, and_true]
      exact fun _ => R_r)) ⟨?_, ?_, ?_, ?_, ?_, ?_, ?_, ?_, ?_, trivial⟩ ?_
  · exact s_val rfl rfl fun L v w D N I => ld_E (R_n3.keep1 I.keep (Ne.symm ne_r_n3)) _ rfl rfl ldK
  · exact s_val rfl rfl fun L v w D N I => ld_E (R_n4.keep1 I.keep (Ne.symm ne_r_n4)) _ rfl rfl ldK
  · exact s_val rfl rfl fun L v w D N I => bd_FL _ _ rfl (I.val 0 (D 0 rfl)) (I.val 1 (D 1 rfl)) ldK
  · exact s_val rfl rfl fun L v w D N I => bd_E1 rfl rfl ldK
  · exact s_val rfl rfl fun L v w D N I => ld_E (R_n3.keep1 I.keep (Ne.symm ne_r_n3)) _ rfl rfl ldK
  · exact s_val rfl rfl fun L v w D N I => ld_E (R_n4.keep1 I.keep (Ne.symm ne_r_n4)) _ rfl rfl ldK
  · exact s_val rfl rfl fun L v w D N I => gMul _ _ rfl rfl (emul (I.val 4 (D 4 rfl)) (I.val 5 (D 5 rfl)) w)
  · exact s_val rfl rfl fun L v w D N I => bd_W _ _ _ rfl (I.val 2 (D 2 rfl)) (I.val 3 (D 3 rfl)) (I.val 6 (D 6 rfl)) ldK
  · exact s_put 0 rfl rfl rfl rfl rfl hok fun L v w D I cs hR ho => st_W hR (sz_len ho) _ _ rfl rfl (I.val 7 (D 7 rfl)) fun _ c a b k => ⟨trivial, k, c, a, b⟩
  intro L v3 W3 hL hI
  replace R_b := R_b.keep1 hI.keep ne_b_r
  replace R_n3 := R_n3.keep1 hI.keep (Ne.symm ne_r_n3)
  replace R_n4 := R_n4.keep1 hI.keep (Ne.symm ne_r_n4)
  replace R_r := hI.new 0 rfl (hL 8 (by decide))
  replace lt_r := Nat.lt_of_lt_of_le lt_r hI.keep.size
  replace hx := hx.keep1 hI.keep bs_r
  clear hI hL hok L
  simp only [putP, Act.put, List.setIfInBounds_toArray, List.set_cons_zero, List.set_cons_succ]
  go_wp2
  obtain ⟨cs, hr, hv⟩ := R_r
  replace hv : isW (Value.agg (List.toArray cs)) (tf (V (f))) (tf (V (g))) (1) ((tf (V (f))) * (tf (V (g)))) := hv
  obtain ⟨fs, hu'⟩ := uWd
  refine bodyPost_ret (results_cell_row (p := 2) (ty := 82) rfl _ _ r 82 _ (0, 0) _ rfl hr hu' rfl (by rw [List.size_toArray, isW_len hv]; exact iWd)) rfl ?_
  exact ⟨_, rfl, hv, hx⟩
def plan_85_0 : List Plan := [⟨[], []⟩]
def plan_85_1 : List Plan := [⟨[], []⟩, ⟨[0], [(1, 0)]⟩, ⟨[], []⟩, ⟨[], []⟩, ⟨[0, 1, 2, 3], [(2, 1), (3, 2), (4, 3)]⟩, ⟨[0, 1, 2, 3, 4], [(5, 4)]⟩]
set_option maxRecDepth 20000 in
set_option maxHeartbeats 8000000 in
theorem nought_any (w : World) :
    Calls Tryd.prog 37 #[] w fun e w' => ∃ r, e = .returned r ∧ isW r 0 1 1 0 ∧ Ext w w' := by
  go_enter Tryd.func37, Tryd.ntmps37
  have hx : Ext w w := Ext.refl w
  go_upto_region 0 with fail
  have hok : TrsOk [] w.heap.size ([(tk (some 0) 0 82 (none) (sz 16) (fun _ => True))] : List Trk) := ⟨by simp [tk], by simp [tk], by simp [tk], by simp [tk]⟩
  refine wp_region_text (Inv [] (fun _ _ => True) [(tk (some 0) 0 82 (none) (sz 16) (fun _ => True))] w) plan_85_0 [(0, 0)] 6 rfl (by kernel_rfl) (Inv.start0 hok (by simp)) ⟨?_, trivial⟩ ?_
  · exact s_new 0 rfl rfl rfl rfl rfl hok fun L v w D I => al_W rfl fun c h => ⟨trivial, rfl, c, rfl, sz_mk c h⟩
  intro L v1 W1 hL hI
  obtain ⟨r, hb_r, lo_r, R_r⟩ := hI.made0 0 rfl (hL 0 (by decide))
  have bs_r := Nat.le_trans hx.size lo_r
  have lt_r := R_r.lt
  replace hx := hx.trans hI.keep.to_ext
  clear hI hL hok L
  simp only [putP, Act.put, List.setIfInBounds_toArray, List.set_cons_zero, List.set_cons_succ, hb_r]
  go_upto_region 1 with fail
  have hok : TrsOk [r] W1.heap.size ([(tk (none) r 82 (some 5) (sz 16) (fun u => isW u (0) (1) (1) (0)))] : List Trk) := ⟨by simp [tk, R_r.lt], by simp [tk], by simp [tk], by simp [tk]⟩
  refine wp_region_text (Inv [r] (fun j u => match j with | 0 => isE u (1) | 1 => isFl u (0) (1) | 2 => isE u (1) | 3 => isE u (0) | 4 => isW u (0) (1) (1) (0) | _ => True) [(tk (none) r 82 (some 5) (sz 16) (fun u => isW u (0) (1) (1) (0)))] W1) plan_85_1 [(1, 0), (2, 1), (3, 2), (4, 3), (5, 4)] 6 rfl (by kernel_rfl) (Inv.start0 hok (by
      simp only [List.forall_mem_cons, List.not_mem_nil, false_implies, implies_true, and_true]
      exact fun _ => R_r)) ⟨?_, ?_, ?_, ?_, ?_, ?_, trivial⟩ ?_
  · exact s_val rfl rfl fun L v w D N I => bd_E1 rfl rfl ldK
  · exact s_val rfl rfl fun L v w D N I => bd_FLy _ rfl (I.val 0 (D 0 rfl)) ldK
  · exact s_val rfl rfl fun L v w D N I => bd_E1 rfl rfl ldK
  · exact s_val rfl rfl fun L v w D N I => bd_E0 rfl ldK
  · exact s_val rfl rfl fun L v w D N I => bd_W _ _ _ rfl (I.val 1 (D 1 rfl)) (I.val 2 (D 2 rfl)) (I.val 3 (D 3 rfl)) ldK
  · exact s_put 0 rfl rfl rfl rfl rfl hok fun L v w D I cs hR ho => st_W hR (sz_len ho) _ _ rfl rfl (I.val 4 (D 4 rfl)) fun _ c a b k => ⟨trivial, k, c, a, b⟩
  intro L v2 W2 hL hI
  replace R_r := hI.new 0 rfl (hL 5 (by decide))
  replace lt_r := Nat.lt_of_lt_of_le lt_r hI.keep.size
  replace hx := hx.keep1 hI.keep bs_r
  clear hI hL hok L
  simp only [putP, Act.put, List.setIfInBounds_toArray, List.set_cons_zero, List.set_cons_succ]
  go_wp2
  obtain ⟨cs, hr, hv⟩ := R_r
  replace hv : isW (Value.agg (List.toArray cs)) (0) (1) (1) (0) := hv
  obtain ⟨fs, hu'⟩ := uWd
  refine bodyPost_ret (results_cell_row (p := 0) (ty := 82) rfl _ _ r 82 _ (0, 0) _ rfl hr hu' rfl (by rw [List.size_toArray, isW_len hv]; exact iWd)) rfl ?_
  exact ⟨_, rfl, hv, hx⟩
def plan_84_0 : List Plan := [⟨[], []⟩, ⟨[], []⟩]
def plan_84_1 : List Plan := [⟨[], []⟩, ⟨[0], [(4, 0)]⟩, ⟨[0, 1], [(5, 1)]⟩, ⟨[], []⟩, ⟨[0, 1, 2, 3], [(6, 2), (3, 3)]⟩]
def plan_84_2 : List Plan := [⟨[], []⟩, ⟨[0], [(7, 0)]⟩, ⟨[0, 1], [(8, 1)]⟩, ⟨[], []⟩, ⟨[0, 1, 2, 3], [(9, 2), (10, 3)]⟩, ⟨[0, 1, 2, 3, 4], [(11, 4)]⟩, ⟨[], []⟩, ⟨[6], [(13, 6)]⟩, ⟨[6, 7], [(14, 7)]⟩, ⟨[], []⟩, ⟨[0, 1, 2, 3, 4, 5, 6, 7, 8, 9], [(15, 8), (16, 9)]⟩, ⟨[0, 1, 2, 3, 4, 5, 6, 7, 8, 9, 10], [(17, 10)]⟩, ⟨[0, 1, 2, 3, 4, 5, 6, 7, 8, 9, 10, 11], [(12, 5), (18, 11)]⟩, ⟨[0, 1, 2, 3, 4, 5, 6, 7, 8, 9, 10, 11, 12], [(19, 12)]⟩]
set_option maxRecDepth 20000 in
set_option maxHeartbeats 8000000 in
theorem cout_any {u : Value} {P : P7} (hu : isP u P) (w : World) :
    Calls Tryd.prog 41 #[u] w fun e w' => e = .returned (.agg (pc (fb P.x) (fb P.y))) ∧ Ext w w' := by
  obtain ⟨X1, Y1, Z1, T1, hu, hP⟩ := hu
  obtain ⟨c0, rfl, -, -, hc0⟩ := isW_cells hu
  clear hu
  go_enter Tryd.func41, Tryd.ntmps41
  have hx : Ext w w := Ext.refl w
  go_upto_region 0 with fail
  have hok : TrsOk [] w.heap.size ([(tk (some 0) 0 82 (none) (fun u => isW u (X1) (Y1) (Z1) (T1)) (fun _ => True)), (tk (some 1) 0 53 (none) (sz 64) (fun _ => True))] : List Trk) := ⟨by simp [tk], by simp [tk], by simp [tk], by simp [tk]⟩
  refine wp_region_text (Inv [] (fun _ _ => True) [(tk (some 0) 0 82 (none) (fun u => isW u (X1) (Y1) (Z1) (T1)) (fun _ => True)), (tk (some 1) 0 53 (none) (sz 64) (fun _ => True))] w) plan_84_0 [(1, 0), (2, 1)] 20 rfl (by kernel_rfl) (Inv.start0 hok (by simp)) ⟨?_, ?_, trivial⟩ ?_
  · exact s_new 0 rfl rfl rfl rfl rfl hok fun L v w D I => give_box c0.toList rfl rfl ⟨trivial, rfl, _, rfl, hc0⟩
  · exact s_new 1 rfl rfl rfl rfl rfl hok fun L v w D I => al_PT rfl fun c h => ⟨trivial, rfl, c, rfl, sz_mk c h⟩
  intro L v1 W1 hL hI
  obtain ⟨bu, hb_bu, lo_bu, R_bu⟩ := hI.made0 0 rfl (hL 0 (by decide))
  obtain ⟨r, hb_r, lo_r, R_r⟩ := hI.made0 1 rfl (hL 1 (by decide))
  have ne_bu_r := hI.two 0 1 rfl rfl rfl rfl rfl (hL 0 (by decide)) (hL 1 (by decide)) hb_bu hb_r
  have bs_r := Nat.le_trans hx.size lo_r
  have lt_r := R_r.lt
  replace hx := hx.trans hI.keep.to_ext
  clear hI hL hok L
  simp only [putP, Act.put, List.setIfInBounds_toArray, List.set_cons_zero, List.set_cons_succ, hb_bu, hb_r]
  go_upto_region 1 with fail
  have hok : TrsOk [] W1.heap.size ([(tk (some 3) 0 78 (some 4) (sz 4) (fun u => isE u (fiv (Z1))))] : List Trk) := ⟨by simp [tk], by simp [tk], by simp [tk], by simp [tk]⟩
  refine wp_region_text (Inv [] (fun j u => match j with | 0 => u = .pointer (some ⟨bu, 8, none⟩) | 1 => isE u (Z1) | 2 => isE u (fiv (Z1)) | _ => True) [(tk (some 3) 0 78 (some 4) (sz 4) (fun u => isE u (fiv (Z1))))] W1) plan_84_1 [(4, 0), (5, 1), (6, 2), (3, 3)] 20 rfl (by kernel_rfl) (Inv.start0 hok (by simp)) ⟨?_, ?_, ?_, ?_, ?_, trivial⟩ ?_
  · exact s_val rfl rfl fun L v w D N I => give_fa rfl rfl fW1 ⟨rfl, Ext.refl _⟩
  · exact s_val rfl rfl fun L v w D N I => ld_Wz (R_bu.keep0 I.keep) _ rfl (I.val 0 (D 0 rfl)) ldK
  · exact s_val rfl rfl fun L v w D N I => gInv _ _ rfl rfl (einv (I.val 1 (D 1 rfl)) w)
  · exact s_new 0 rfl rfl rfl rfl rfl hok fun L v w D I => al_E rfl fun c h => ⟨trivial, rfl, c, rfl, sz_mk c h⟩
  · exact s_lay 0 3 rfl rfl rfl rfl rfl rfl hok fun L v w D I n cs hb hR ho => st_E hR (sz_len ho) _ _ rfl hb (I.val 2 (D 2 rfl)) fun _ c a b k => ⟨trivial, k, c, a, b⟩
  intro L v2 W2 hL hI
  obtain ⟨n3, hb_n3, lo_n3, R_n3⟩ := hI.made 0 rfl (hL 3 (by decide)) (hL 4 (by decide))
  replace R_bu := R_bu.keep0 hI.keep
  replace R_r := R_r.keep0 hI.keep
  have ne_r_n3 := Nat.ne_of_lt (Nat.lt_of_lt_of_le lt_r lo_n3)
  replace lt_r := Nat.lt_of_lt_of_le lt_r hI.keep.size
  replace hx := hx.trans hI.keep.to_ext
  clear hI hL hok L
  simp only [putP, Act.put, List.setIfInBounds_toArray, List.set_cons_zero, List.set_cons_succ, hb_n3]
  go_upto_region 2 with fail
  have hok : TrsOk [r] W2.heap.size ([(tk (none) r 53 (some 13) (sz 64) (fun u => u = .agg (pc (fb ((X1) * (fiv (Z1)))) (fb ((Y1) * (fiv (Z1)))))))] : List Trk) := ⟨by simp [tk, R_r.lt], by simp [tk], by simp [tk], by simp [tk]⟩
  refine wp_region_plan (Inv [r] (fun j u => match j with | 0 => u = .pointer (some ⟨bu, 0, none⟩) | 1 => u = .pointer (some ⟨bu, 0, none⟩) | 2 => isE u (X1) | 3 => isE u (fiv (Z1)) | 4 => isE u ((X1) * (fiv (Z1))) | 5 => u = .agg (bcells (fb ((X1) * (fiv (Z1))))) | 6 => u = .pointer (some ⟨bu, 0, none⟩) | 7 => u = .pointer (some ⟨bu, 4, none⟩) | 8 => isE u (Y1) | 9 => isE u (fiv (Z1)) | 10 => isE u ((Y1) * (fiv (Z1))) | 11 => u = .agg (bcells (fb ((Y1) * (fiv (Z1))))) | 12 => u = .agg (pc (fb ((X1) * (fiv (Z1)))) (fb ((Y1) * (fiv (Z1))))) | _ => True) [(tk (none) r 53 (some 13) (sz 64) (fun u => u = .agg (pc (fb ((X1) * (fiv (Z1)))) (fb ((Y1) * (fiv (Z1)))))))] W2) plan_84_2 [(7, 0), (8, 1), (9, 2), (10, 3), (11, 4), (12, 5), (13, 6), (14, 7), (15, 8), (16, 9), (17, 10), (18, 11), (19, 12)] 20 (by kernel_rfl) rfl (by kernel_rfl) (Inv.start hok (by
      simp only [List.forall_mem_cons, List.not_mem_nil, false_implies, implies_true, and_true]
      exact fun _ => R_r)) ⟨?_, ?_, ?_, ?_, ?_, ?_, ?_, ?_, ?_, ?_, ?_, ?_, ?_, ?_, trivial⟩ ?_
  · exact s_val rfl rfl fun L v w D N I => give_fa rfl rfl fW0 ⟨rfl, Ext.refl _⟩
  · exact s_val rfl rfl fun L v w D N I => give_fa rfl (I.val 0 (D 0 rfl)) fFL0 ⟨rfl, Ext.refl _⟩
  · exact s_val rfl rfl fun L v w D N I => ld_Wx (R_bu.keep1 I.keep ne_bu_r) _ rfl (I.val 1 (D 1 rfl)) ldK
  · exact s_val rfl rfl fun L v w D N I => ld_E (R_n3.keep1 I.keep (Ne.symm ne_r_n3)) _ rfl rfl ldK
  · exact s_val rfl rfl fun L v w D N I => gMul _ _ rfl rfl (emul (I.val 2 (D 2 rfl)) (I.val 3 (D 3 rfl)) w)
  · exact s_val rfl rfl fun L v w D N I => gOut _ _ rfl rfl (calls_known (eout (I.val 4 (D 4 rfl)) w))
  · exact s_val rfl rfl fun L v w D N I => give_fa rfl rfl fW0 ⟨rfl, Ext.refl _⟩
  · exact s_val rfl rfl fun L v w D N I => give_fa rfl (I.val 6 (D 6 rfl)) fFL1 ⟨rfl, Ext.refl _⟩
  · exact s_val rfl rfl fun L v w D N I => ld_Wy (R_bu.keep1 I.keep ne_bu_r) _ rfl (I.val 7 (D 7 rfl)) ldK
  · exact s_val rfl rfl fun L v w D N I => ld_E (R_n3.keep1 I.keep (Ne.symm ne_r_n3)) _ rfl rfl ldK
  · exact s_val rfl rfl fun L v w D N I => gMul _ _ rfl rfl (emul (I.val 8 (D 8 rfl)) (I.val 9 (D 9 rfl)) w)
  · exact s_val rfl rfl fun L v w D N I => gOut _ _ rfl rfl (calls_known (eout (I.val 10 (D 10 rfl)) w))
  · exact s_val rfl rfl fun L v w D N I => bd_P _ _ rfl (I.val 5 (D 5 rfl)) (I.val 11 (D 11 rfl)) ldK
  · exact s_put 0 rfl rfl rfl rfl rfl hok fun L v w D I cs hR ho => st_P hR (sz_len ho) _ _ rfl rfl (I.val 12 (D 12 rfl)) fun _ c a b k => ⟨trivial, k, c, a, b⟩
  intro L v3 W3 hL hI
  replace R_bu := R_bu.keep1 hI.keep ne_bu_r
  replace R_n3 := R_n3.keep1 hI.keep (Ne.symm ne_r_n3)
  replace R_r := hI.new 0 rfl (hL 13 (by decide))
  replace lt_r := Nat.lt_of_lt_of_le lt_r hI.keep.size
  replace hx := hx.keep1 hI.keep bs_r
  clear hI hL hok L
  simp only [putP, Act.put, List.setIfInBounds_toArray, List.set_cons_zero, List.set_cons_succ]
  go_wp2
  obtain ⟨cs, hr, hv⟩ := R_r
  replace hv : (Value.agg (List.toArray cs)) = .agg (pc (fb ((X1) * (fiv (Z1)))) (fb ((Y1) * (fiv (Z1))))) := hv
  obtain ⟨fs, hu'⟩ := uPt
  refine bodyPost_ret (results_cell_row (p := 2) (ty := 53) rfl _ _ r 53 _ (0, 0) _ rfl hr hu' rfl (by rw [List.size_toArray, (show cs.length = 64 by rw [pcL_of hv]; exact pcL_len _ _)]; exact iPt)) rfl ?_
  have ho : X1 * fiv Z1 = P.x ∧ Y1 * fiv Z1 = P.y := hP.out
  have hv2 : Value.agg (List.toArray cs) = Value.agg (pc (fb (X1 * fiv Z1)) (fb (Y1 * fiv Z1))) := hv
  exact ⟨by rw [hv2, ho.1, ho.2], hx⟩
end Go.Proofs.YtgeihelkkhjjaaaDoor
