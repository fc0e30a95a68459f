/-
  The curve's points: Is, in, out, nought, plus, double walked.
-/
import Derived.Test.YtndohjgfjbopnaaCA
set_option linter.unusedSimpArgs false
set_option linter.unusedVariables false
namespace Go.Cv
open Go.RowKit Go.Cv.Pr Go.Cv.Grp
/-- A row of so many cells. -/
def RL (w : World) (n : Nat) (T : TypeId) (k : Nat) : Prop := ∃ cs, Row w n T cs ∧ cs.length = k
theorem RL.keep {bs : List Nat} {w w' : World} {n : Nat} {T : TypeId} {k : Nat} (h : RL w n T k) (hk : Keep bs w w') (hb : n ∉ bs) : RL w' n T k := by
  obtain ⟨cs, h1, h2⟩ := h
  exact ⟨cs, h1.keep hk hb, h2⟩
theorem RL.ext {w w' : World} {n : Nat} {T : TypeId} {k : Nat} (h : RL w n T k) (hx : Ext w w') : RL w' n T k := by
  obtain ⟨cs, h1, h2⟩ := h
  exact ⟨cs, h1.ext hx, h2⟩
theorem RL.lt {w : World} {n : Nat} {T : TypeId} {k : Nat} (h : RL w n T k) : n < w.heap.size := by
  obtain ⟨cs, h1, h2⟩ := h
  exact h1.lt
theorem tf_zero4 : tf (val4 0 0 0 0) = 0 := tf_zero
theorem isE_one : isE (.agg #[.int .u64 1, .int .u64 0, .int .u64 0, .int .u64 0]) 1 := ⟨1, 0, 0, 0, rfl, tf_one⟩
theorem isE_zero : isE (.agg #[.int .u64 0, .int .u64 0, .int .u64 0, .int .u64 0]) 0 := ⟨0, 0, 0, 0, rfl, tf_zero⟩
end Go.Cv
namespace Go.Proofs.Ytndohjgfjbopnaa
open Go.RowKit Go.Cv Go.Cv.Pr Go.Cv.Grp
theorem d_any (w : World) : Calls Try.prog 72 #[] w fun e w' => ∃ r, e = .returned r ∧ isE r C7.d ∧ Ext w w' := by
  go_enter Try.func72, Try.ntmps72
  go_wp2
  refine bodyPost_ret_by (by simp [results, Try.results72, go_sem]; rfl) rfl ?_
  exact ⟨_, rfl, ⟨8496970652267935907, 31536524315187371, 10144147576115030168, 5909686906226998899, rfl, rfl⟩, ext_alloc _ _⟩
theorem twice_tf : tf (val4 16993941304535871833 63073048630374742 1841551078520508720 2596001775599221991) = C7.d + C7.d := by
  have h : Eqp (val4 16993941304535871833 63073048630374742 1841551078520508720 2596001775599221991) (dN + dN) := by decide +kernel
  rw [h.tf, tf_add]; rfl
theorem twice_any (w : World) : Calls Try.prog 94 #[] w fun e w' => ∃ r, e = .returned r ∧ isE r (C7.d + C7.d) ∧ Ext w w' := by
  go_enter Try.func94, Try.ntmps94
  go_wp2
  refine bodyPost_ret_by (by simp [results, Try.results94, go_sem]; rfl) rfl ?_
  exact ⟨_, rfl, ⟨16993941304535871833, 63073048630374742, 1841551078520508720, 2596001775599221991, rfl, twice_tf⟩, ext_alloc _ _⟩
theorem pc_zero : pc (fun _ => 0) (fun _ => 0) = (List.replicate 64 (Value.int .u8 0)).toArray := by
  unfold pc pcL
  rw [bcells_zero]
  rfl
theorem fill_fold : ∀ (l : List Value) (s off : Nat) (cells : Array Value), (l.zipIdx s).foldl (fun cs (x : Value × Nat) => cs.setIfInBounds (off + x.2) x.1) cells = (cells.toList.take (off + s) ++ (l.take (cells.size - (off + s)) ++ cells.toList.drop (off + s + l.length))).toArray
  | [], s, off, cells => by
    apply Array.ext'
    simp
  | x :: l, s, off, cells => by
    rw [List.zipIdx_cons, List.foldl_cons, fill_fold l (s + 1) off]
    apply Array.ext_getElem?
    intro i
    simp only [Array.toList_setIfInBounds, Array.size_setIfInBounds, List.getElem?_toArray, List.getElem?_append, List.length_take, List.length_set, Array.length_toList, List.getElem?_take, List.getElem?_drop, List.getElem?_set, List.length_cons, List.getElem?_cons]
    grind
theorem zero43 : (Try.prog.info? 43).map (fun i => (i.zero.map (·.cells.size))) = some (some 64) := by kernel_rfl
theorem built_two (c1 c2 z : Array Value) (h1 : c1.size = 32) (h2 : c2.size = 32) (hz : z.size = 64) (pl : Nat → Option (Nat × Nat)) (p0 : pl 0 = some (0, 32)) (p1 : pl 1 = some (32, 32)) : Instr.fill pl z [(0, .agg c1), (1, .agg c2)] = some (c1 ++ c2) := by
  have f1 : c1.zipIdx.foldl (fun cs (x : Value × Nat) => cs.setIfInBounds (0 + x.2) x.1) z = (c1.toList ++ z.toList.drop 32).toArray := by
    have := fill_fold c1.toList 0 0 z
    rw [← Array.toList_zipIdx] at this
    rw [← Array.foldl_toList, this]
    congr 1
    simp [h1, hz]
    rw [List.take_of_length_le (by simp [h1])]
  have f2 : c2.zipIdx.foldl (fun cs (x : Value × Nat) => cs.setIfInBounds (32 + x.2) x.1) ((c1.toList ++ z.toList.drop 32).toArray) = c1 ++ c2 := by
    have := fill_fold c2.toList 0 32 ((c1.toList ++ z.toList.drop 32).toArray)
    rw [← Array.toList_zipIdx] at this
    rw [← Array.foldl_toList, this]
    apply Array.ext'
    simp [h1, h2, hz]
    rw [List.take_of_length_le (by simp [h2]), List.drop_of_length_le (by simp [h1, hz])]
    simp
  unfold Instr.fill
  rw [p0]
  simp only [Value.cells, h1, hz]
  simp only [ne_eq, not_true, decide_false, Bool.false_or, decide_eq_true_eq]
  rw [if_neg (by decide)]
  have g1 : (Array.foldl (fun cs x => match x with | (c, j) => cs.setIfInBounds (0 + j) c) z c1.zipIdx) = (c1.toList ++ z.toList.drop 32).toArray := f1
  rw [g1]
  unfold Instr.fill
  rw [p1]
  simp only [Value.cells, h2]
  simp only [ne_eq, not_true, decide_false, Bool.false_or, decide_eq_true_eq]
  rw [if_neg (by simp [h1, hz])]
  have g2 : (Array.foldl (fun cs x => match x with | (c, j) => cs.setIfInBounds (32 + j) c) ((c1.toList ++ z.toList.drop 32).toArray) c2.zipIdx) = c1 ++ c2 := f2
  rw [g2]
  unfold Instr.fill
  rfl
theorem places43 : (Try.prog.underlying 43).map (fun d => match d with | .struct fields => (fields.toList.mapM (fun f => (Try.prog.info? f.type).map fun i => (f.offset, i.size))) | _ => none) = some (some [(0, 32), (32, 32)]) := by kernel_rfl
theorem built_P (c1 c2 : Array Value) (h1 : c1.size = 32) (h2 : c2.size = 32) (w : World) : (Instr.build 43 #[(0, .agg c1), (1, .agg c2)]).run Try.prog w = .ok (.agg (c1 ++ c2)) w := by
  refine run_build w _ _ _ ?_
  unfold Program.built
  have hz := zero43
  have hp := places43
  cases hi : Try.prog.info? 43 with
  | none => rw [hi] at hz; cases hz
  | some it =>
    rw [hi] at hz
    simp only [Option.map_some, Option.some.injEq] at hz
    cases hu : Try.prog.underlying 43 with
    | none => rw [hu] at hp; cases hp
    | some d =>
      rw [hu] at hp
      simp only [Option.map_some, Option.some.injEq] at hp
      cases d with
      | struct fields =>
        simp only at hp ⊢
        cases hzz : it.zero with
        | none => rw [hzz] at hz; cases hz
        | some z =>
          rw [hzz] at hz
          simp only [Option.map_some, Option.some.injEq] at hz
          rw [hp]
          exact built_two c1 c2 z.cells h1 h2 hz _ rfl rfl
      | _ => cases hp
/-- A point made of its two numbers. -/
theorem bd_P {w : World} {o : Oper} {ev : Operand → Value} {R : Value → World → Prop} {f g : Nat → UInt8} (p q : Operand) (ho : o.op = .build 43 #[(0, p), (1, q)]) (hp : ev p = .agg (bcells f)) (hq : ev q = .agg (bcells g)) (h : ∀ u, u = .agg (pc f g) → R u w) :
    Gives Try.prog R ((execOp ev o).run Try.prog w) := by
  unfold execOp
  simp only [ho, List.map_toArray, List.map_cons, List.map_nil, hp, hq, Sem.run_bind, Sem.run_pure, built_P _ _ (bcells_size f) (bcells_size g), Result.andThen_ok]
  exact h _ (by rw [pc_eq])
/-- A value that is a point over a denominator. -/
def isP (u : Value) (P : P7) : Prop := ∃ X Y Z T, isW u X Y Z T ∧ Rep X Y Z T P
def plan_29_0 : List Plan := [⟨[], []⟩, ⟨[], []⟩]
def plan_29_1 : List Plan := [⟨[], []⟩, ⟨[0], [(5, 0)]⟩, ⟨[0, 1], [(6, 1)]⟩, ⟨[], []⟩, ⟨[3], [(8, 3)]⟩, ⟨[0, 1, 2, 3, 4], [(9, 4)]⟩, ⟨[], []⟩, ⟨[], []⟩, ⟨[0, 1, 2, 3, 4, 5, 6, 7], [(7, 2), (3, 6)]⟩, ⟨[0, 1, 2, 3, 4, 5, 6, 7, 8], [(10, 5), (4, 7)]⟩]
def plan_29_2 : List Plan := [⟨[], []⟩, ⟨[], []⟩, ⟨[0, 1], [(11, 0), (12, 1)]⟩, ⟨[], []⟩, ⟨[], []⟩, ⟨[0, 1, 2, 3, 4], [(14, 3), (15, 4)]⟩, ⟨[0, 1, 2, 3, 4, 5], [(13, 2)]⟩, ⟨[0, 1, 2, 3, 4, 5, 6], [(16, 5)]⟩]
def plan_29_3 : List Plan := [⟨[], []⟩, ⟨[], []⟩, ⟨[0, 1], [(17, 0), (18, 1)]⟩, ⟨[0, 1, 2], [(19, 2)]⟩, ⟨[], []⟩, ⟨[0, 1, 2, 3], []⟩, ⟨[], []⟩, ⟨[0, 1, 2, 3, 5, 6], [(22, 5), (23, 6)]⟩, ⟨[], []⟩, ⟨[0, 1, 2, 3, 5, 6, 7, 8], [(24, 7), (25, 8)]⟩, ⟨[0, 1, 2, 3, 4, 5, 6, 7, 8, 9], [(21, 4), (26, 9)]⟩, ⟨[0, 1, 2, 3, 4, 5, 6, 7, 8, 9, 10], [(27, 10)]⟩, ⟨[0, 1, 2, 3, 4, 5, 6, 7, 8, 9, 10, 11], [(20, 3), (28, 11)]⟩, ⟨[0, 1, 2, 3, 4, 5, 6, 7, 8, 9, 10, 11, 12], [(29, 12)]⟩]
set_option maxRecDepth 20000 in
set_option maxHeartbeats 8000000 in
theorem is_any (f g : Nat → UInt8) (w : World) :
    Calls Try.prog 29 #[.agg (pc f g)] w fun e w' => e = .returned (.bool (decide (tf (V g) * tf (V g) - tf (V f) * tf (V f) = 1 + C7.d * (tf (V f) * tf (V f)) * (tf (V g) * tf (V g))))) ∧ Ext w w' := by
  go_enter Try.func29, Try.ntmps29
  have hx : Ext w w := Ext.refl w
  go_upto_region 0 with fail
  have hok : TrsOk [] w.heap.size ([⟨some 0, 0, 43, none, fun cs => (Value.agg (List.toArray cs)) = .agg (pc (f) (g)), fun _ => True⟩] : List Trk) := ⟨by simp, by simp, by simp, by simp⟩
  refine wp_region_text (Inv [] (fun j u => match j with | 1 => u = .bool false | _ => True) [⟨some 0, 0, 43, none, fun cs => (Value.agg (List.toArray cs)) = .agg (pc (f) (g)), fun _ => True⟩] w) plan_29_0 [(1, 0), (2, 1)] 30 rfl (by kernel_rfl) (Inv.start0 hok (by simp)) ⟨?_, ?_, trivial⟩ ?_
  · intro L v w hL hD hC hI
    refine ⟨fun _ => ?_, fun hw => by cases hw⟩
    refine hI.alloc_step hok hL ⟨some 0, 0, 43, none, fun cs => (Value.agg (List.toArray cs)) = .agg (pc (f) (g)), fun _ => True⟩ (by simp) rfl (by simp) (by intro s hs; cases hs) ?_
    rw [show readsOf plan_29_0 0 = [] from rfl]
    exact ⟨trivial, rfl, pcL f g, rfl, by show (Value.agg _ = Value.agg _); rfl⟩
  · intro L v w hL hD hC hI
    refine ⟨fun _ => ?_, fun hw => by cases hw⟩
    refine hI.val_step hL (by simp) ?_
    rw [show readsOf plan_29_0 1 = [] from rfl]
    first | exact ⟨rfl, Ext.refl _⟩ | (go_simp; exact ⟨rfl, Ext.refl _⟩)
  intro L v1 W1 hL hI
  obtain ⟨b, cs, hb_b, lo_b, hr, hn, ho⟩ := hI.row_made ⟨some 0, 0, 43, none, fun cs => (Value.agg (List.toArray cs)) = .agg (pc (f) (g)), fun _ => True⟩ (by simp) 0 rfl (hL 0 (by decide))
  have R_b : RV W1 b 43 (fun u => u = .agg (pc (f) (g))) := ⟨cs, hr, ho (by intro s hs; cases hs)⟩
  clear hr hn ho
  have hx' : Ext w W1 := hx.trans hI.keep.to_ext
  have lt_b : b < W1.heap.size := R_b.lt
  have bs_b : w.heap.size ≤ b := Nat.le_trans hx.size lo_b
  have hs_2_0 : (v1 1) = .bool false := hI.val 1 (hL 1 (by decide))
  clear hx hI hL hok L
  have hx := hx'
  clear hx'
  simp only [putP, Act.put, List.setIfInBounds_toArray, List.set_cons_zero, List.set_cons_succ, hb_b, hs_2_0]
  go_upto_region 1 with fail
  have hok : TrsOk [] W1.heap.size ([⟨some 6, 0, 73, some 8, fun cs => cs.length = 4, fun cs => isE (Value.agg (List.toArray cs)) (tf (V (f)))⟩, ⟨some 7, 0, 73, some 9, fun cs => cs.length = 4, fun cs => isE (Value.agg (List.toArray cs)) (tf (V (g)))⟩] : List Trk) := ⟨by simp, by simp, by simp, by simp⟩
  refine wp_region_plan (Inv [] (fun j u => match j with | 0 => u = .pointer (some ⟨b, 0, none⟩) | 1 => u = .agg (bcells (f)) | 2 => isE u (tf (V (f))) | 3 => u = .pointer (some ⟨b, 32, none⟩) | 4 => u = .agg (bcells (g)) | 5 => isE u (tf (V (g))) | _ => True) [⟨some 6, 0, 73, some 8, fun cs => cs.length = 4, fun cs => isE (Value.agg (List.toArray cs)) (tf (V (f)))⟩, ⟨some 7, 0, 73, some 9, fun cs => cs.length = 4, fun cs => isE (Value.agg (List.toArray cs)) (tf (V (g)))⟩] W1) plan_29_1 [(5, 0), (6, 1), (7, 2), (8, 3), (9, 4), (10, 5), (3, 6), (4, 7)] 30 (by kernel_rfl) rfl (by kernel_rfl) (Inv.start hok (by simp)) ⟨?_, ?_, ?_, ?_, ?_, ?_, ?_, ?_, ?_, ?_, trivial⟩ ?_
  · intro L v w hL hD hC hI
    refine ⟨fun _ => ?_, fun hw => by cases hw⟩
    refine hI.val_step hL (by simp) ?_
    rw [show readsOf plan_29_1 0 = [] from rfl]
    go_simp
    exact ⟨rfl, Ext.refl _⟩
  · intro L v w hL hD hC hI
    refine ⟨fun _ => ?_, fun hw => by cases hw⟩
    have h0 : (v 0) = .pointer (some ⟨b, 0, none⟩) := hI.val 0 (hD 0 (by decide))
    refine hI.val_step hL (by simp) ?_
    rw [show readsOf plan_29_1 1 = [(5, 0)] from rfl]
    exact ld_Px (R_b.keep hI.keep (by simp)) _ rfl h0 fun u hu => ⟨hu, Ext.refl _⟩
  · intro L v w hL hD hC hI
    refine ⟨fun _ => ?_, fun hw => by cases hw⟩
    have h1 : (v 1) = .agg (bcells (f)) := hI.val 1 (hD 1 (by decide))
    refine hI.val_step hL (by simp) ?_
    rw [show readsOf plan_29_1 2 = [(6, 1)] from rfl]
    refine give_call _ _ _ _ rfl rfl Try.func71 (by kernel_rfl) (by kernel_rfl) ?_
    refine Calls.mono (by have := ein (f) w; rwa [← h1] at this) ?_
    rintro e w' ⟨r, rfl, hr, hx⟩
    exact ⟨r, rfl, hr, hx⟩
  · intro L v w hL hD hC hI
    refine ⟨fun _ => ?_, fun hw => by cases hw⟩
    refine hI.val_step hL (by simp) ?_
    rw [show readsOf plan_29_1 3 = [] from rfl]
    go_simp
    exact ⟨rfl, Ext.refl _⟩
  · intro L v w hL hD hC hI
    refine ⟨fun _ => ?_, fun hw => by cases hw⟩
    have h3 : (v 3) = .pointer (some ⟨b, 32, none⟩) := hI.val 3 (hD 3 (by decide))
    refine hI.val_step hL (by simp) ?_
    rw [show readsOf plan_29_1 4 = [(8, 3)] from rfl]
    exact ld_Py (R_b.keep hI.keep (by simp)) _ rfl h3 fun u hu => ⟨hu, Ext.refl _⟩
  · intro L v w hL hD hC hI
    refine ⟨fun _ => ?_, fun hw => by cases hw⟩
    have h4 : (v 4) = .agg (bcells (g)) := hI.val 4 (hD 4 (by decide))
    refine hI.val_step hL (by simp) ?_
    rw [show readsOf plan_29_1 5 = [(9, 4)] from rfl]
    refine give_call _ _ _ _ rfl rfl Try.func71 (by kernel_rfl) (by kernel_rfl) ?_
    refine Calls.mono (by have := ein (g) w; rwa [← h4] at this) ?_
    rintro e w' ⟨r, rfl, hr, hx⟩
    exact ⟨r, rfl, hr, hx⟩
  · intro L v w hL hD hC hI
    refine ⟨fun _ => ?_, fun hw => by cases hw⟩
    refine hI.alloc_step hok hL ⟨some 6, 0, 73, some 8, fun cs => cs.length = 4, fun cs => isE (Value.agg (List.toArray cs)) (tf (V (f)))⟩ (by simp) rfl (by simp) (by intro s hs; cases hs; exact not_yet hC hL (by decide)) ?_
    rw [show readsOf plan_29_1 6 = [] from rfl]
    go_simp
    first | exact ⟨rfl, _, rfl, by first | rfl | trivial⟩ | exact ⟨trivial, rfl, _, rfl, by first | rfl | trivial⟩ | exact ⟨rfl, (bcells fun _ => 0).toList, by rw [Array.toArray_toList], by simp⟩ | exact ⟨trivial, rfl, (bcells fun _ => 0).toList, by rw [Array.toArray_toList], by simp⟩
  · intro L v w hL hD hC hI
    refine ⟨fun _ => ?_, fun hw => by cases hw⟩
    refine hI.alloc_step hok hL ⟨some 7, 0, 73, some 9, fun cs => cs.length = 4, fun cs => isE (Value.agg (List.toArray cs)) (tf (V (g)))⟩ (by simp) rfl (by simp) (by intro s hs; cases hs; exact not_yet hC hL (by decide)) ?_
    rw [show readsOf plan_29_1 7 = [] from rfl]
    go_simp
    first | exact ⟨rfl, _, rfl, by first | rfl | trivial⟩ | exact ⟨trivial, rfl, _, rfl, by first | rfl | trivial⟩ | exact ⟨rfl, (bcells fun _ => 0).toList, by rw [Array.toArray_toList], by simp⟩ | exact ⟨trivial, rfl, (bcells fun _ => 0).toList, by rw [Array.toArray_toList], by simp⟩
  · intro L v w hL hD hC hI
    refine ⟨fun _ => ?_, fun hw => by cases hw⟩
    have h2 : isE (v 2) (tf (V (f))) := hI.val 2 (hD 2 (by decide))
    refine hI.store_step hok hL ⟨some 6, 0, 73, some 8, fun cs => cs.length = 4, fun cs => isE (Value.agg (List.toArray cs)) (tf (V (f)))⟩ (by simp) rfl (by simp) (by intro k hk; cases hk; exact hD 6 (by decide)) ?_
    intro n cs hb hR hold
    change v 6 = .pointer (some ⟨n, 0, none⟩) at hb
    rw [show readsOf plan_29_1 8 = [(7, 2), (3, 6)] from rfl]
    exact st_E hR hold _ _ rfl hb h2 fun w' cs' hr he hk => ⟨trivial, hk, cs', hr, he⟩
  · intro L v w hL hD hC hI
    refine ⟨fun _ => ?_, fun hw => by cases hw⟩
    have h5 : isE (v 5) (tf (V (g))) := hI.val 5 (hD 5 (by decide))
    refine hI.store_step hok hL ⟨some 7, 0, 73, some 9, fun cs => cs.length = 4, fun cs => isE (Value.agg (List.toArray cs)) (tf (V (g)))⟩ (by simp) rfl (by simp) (by intro k hk; cases hk; exact hD 7 (by decide)) ?_
    intro n cs hb hR hold
    change v 7 = .pointer (some ⟨n, 0, none⟩) at hb
    rw [show readsOf plan_29_1 9 = [(10, 5), (4, 7)] from rfl]
    exact st_E hR hold _ _ rfl hb h5 fun w' cs' hr he hk => ⟨trivial, hk, cs', hr, he⟩
  intro L v2 W2 hL hI
  obtain ⟨n3, cs, hb_n3, lo_n3, hr, hn, ho⟩ := hI.row_made ⟨some 6, 0, 73, some 8, fun cs => cs.length = 4, fun cs => isE (Value.agg (List.toArray cs)) (tf (V (f)))⟩ (by simp) 6 rfl (hL 6 (by decide))
  have R_n3 : RV W2 n3 73 (fun u => isE u (tf (V (f)))) := ⟨cs, hr, hn 8 rfl (hL 8 (by decide))⟩
  clear hr hn ho
  obtain ⟨n4, cs, hb_n4, lo_n4, hr, hn, ho⟩ := hI.row_made ⟨some 7, 0, 73, some 9, fun cs => cs.length = 4, fun cs => isE (Value.agg (List.toArray cs)) (tf (V (g)))⟩ (by simp) 7 rfl (hL 7 (by decide))
  have R_n4 : RV W2 n4 73 (fun u => isE u (tf (V (g)))) := ⟨cs, hr, hn 9 rfl (hL 9 (by decide))⟩
  clear hr hn ho
  replace R_b := R_b.keep hI.keep (by simp)
  have ne_n3_n4 : n3 ≠ n4 := fun e => hI.apart ⟨some 6, 0, 73, some 8, fun cs => cs.length = 4, fun cs => isE (Value.agg (List.toArray cs)) (tf (V (f)))⟩ (by simp) ⟨some 7, 0, 73, some 9, fun cs => cs.length = 4, fun cs => isE (Value.agg (List.toArray cs)) (tf (V (g)))⟩ (by simp) 6 7 rfl rfl (by decide) (hL 6 (by decide)) (hL 7 (by decide)) (by rw [hb_n3, hb_n4, e])
  have ne_b_n3 : b ≠ n3 := Nat.ne_of_lt (Nat.lt_of_lt_of_le lt_b lo_n3)
  have ne_b_n4 : b ≠ n4 := Nat.ne_of_lt (Nat.lt_of_lt_of_le lt_b lo_n4)
  replace lt_b := Nat.lt_of_lt_of_le lt_b hI.keep.size
  have hx' : Ext w W2 := hx.trans hI.keep.to_ext
  have lt_n3 : n3 < W2.heap.size := R_n3.lt
  have bs_n3 : w.heap.size ≤ n3 := Nat.le_trans hx.size lo_n3
  have lt_n4 : n4 < W2.heap.size := R_n4.lt
  have bs_n4 : w.heap.size ≤ n4 := Nat.le_trans hx.size lo_n4
  clear hx hI hL hok L
  have hx := hx'
  clear hx'
  simp only [putP, Act.put, List.setIfInBounds_toArray, List.set_cons_zero, List.set_cons_succ, hb_n3, hb_n4]
  go_upto_region 2 with fail
  have hok : TrsOk [n3, n4] W2.heap.size ([⟨none, n3, 73, some 6, fun cs => isE (Value.agg (List.toArray cs)) (tf (V (f))), fun cs => isE (Value.agg (List.toArray cs)) ((tf (V (f))) * (tf (V (f))))⟩, ⟨none, n4, 73, some 7, fun cs => isE (Value.agg (List.toArray cs)) (tf (V (g))), fun cs => isE (Value.agg (List.toArray cs)) ((tf (V (g))) * (tf (V (g))))⟩] : List Trk) := ⟨by simp [R_n3.lt, R_n4.lt], by simp [ne_n3_n4, Ne.symm ne_n3_n4], by simp, by simp⟩
  refine wp_region_plan (Inv [n3, n4] (fun j u => match j with | 0 => isE u (tf (V (f))) | 1 => isE u (tf (V (f))) | 2 => isE u ((tf (V (f))) * (tf (V (f)))) | 3 => isE u (tf (V (g))) | 4 => isE u (tf (V (g))) | 5 => isE u ((tf (V (g))) * (tf (V (g)))) | _ => True) [⟨none, n3, 73, some 6, fun cs => isE (Value.agg (List.toArray cs)) (tf (V (f))), fun cs => isE (Value.agg (List.toArray cs)) ((tf (V (f))) * (tf (V (f))))⟩, ⟨none, n4, 73, some 7, fun cs => isE (Value.agg (List.toArray cs)) (tf (V (g))), fun cs => isE (Value.agg (List.toArray cs)) ((tf (V (g))) * (tf (V (g))))⟩] W2) plan_29_2 [(11, 0), (12, 1), (13, 2), (14, 3), (15, 4), (16, 5)] 30 (by kernel_rfl) rfl (by kernel_rfl) (Inv.start hok (by
      simp only [List.forall_mem_cons, List.not_mem_nil, false_implies, implies_true, and_true]
      refine ⟨fun _ => R_n3, fun _ => R_n4⟩)) ⟨?_, ?_, ?_, ?_, ?_, ?_, ?_, ?_, trivial⟩ ?_
  · intro L v w hL hD hC hI
    refine ⟨fun _ => ?_, fun hw => by cases hw⟩
    refine hI.val_step hL (by simp) ?_
    rw [show readsOf plan_29_2 0 = [] from rfl]
    exact ld_E (hI.row_old ⟨none, n3, 73, some 6, fun cs => isE (Value.agg (List.toArray cs)) (tf (V (f))), fun cs => isE (Value.agg (List.toArray cs)) ((tf (V (f))) * (tf (V (f))))⟩ (by simp) rfl (by intro s hs; cases hs; exact not_yet hC hL (by decide))) _ rfl rfl fun u hu => ⟨hu, Ext.refl _⟩
  · intro L v w hL hD hC hI
    refine ⟨fun _ => ?_, fun hw => by cases hw⟩
    refine hI.val_step hL (by simp) ?_
    rw [show readsOf plan_29_2 1 = [] from rfl]
    exact ld_E (hI.row_old ⟨none, n3, 73, some 6, fun cs => isE (Value.agg (List.toArray cs)) (tf (V (f))), fun cs => isE (Value.agg (List.toArray cs)) ((tf (V (f))) * (tf (V (f))))⟩ (by simp) rfl (by intro s hs; cases hs; exact not_yet hC hL (by decide))) _ rfl rfl fun u hu => ⟨hu, Ext.refl _⟩
  · intro L v w hL hD hC hI
    refine ⟨fun _ => ?_, fun hw => by cases hw⟩
    have h0 : isE (v 0) (tf (V (f))) := hI.val 0 (hD 0 (by decide))
    have h1 : isE (v 1) (tf (V (f))) := hI.val 1 (hD 1 (by decide))
    refine hI.val_step hL (by simp) ?_
    rw [show readsOf plan_29_2 2 = [(11, 0), (12, 1)] from rfl]
    refine give_call _ _ _ _ rfl rfl Try.func70 (by kernel_rfl) (by kernel_rfl) ?_
    refine Calls.mono (emul h0 h1 w) ?_
    rintro e w' ⟨r, rfl, hr, hx⟩
    exact ⟨r, rfl, hr, hx⟩
  · intro L v w hL hD hC hI
    refine ⟨fun _ => ?_, fun hw => by cases hw⟩
    refine hI.val_step hL (by simp) ?_
    rw [show readsOf plan_29_2 3 = [] from rfl]
    exact ld_E (hI.row_old ⟨none, n4, 73, some 7, fun cs => isE (Value.agg (List.toArray cs)) (tf (V (g))), fun cs => isE (Value.agg (List.toArray cs)) ((tf (V (g))) * (tf (V (g))))⟩ (by simp) rfl (by intro s hs; cases hs; exact not_yet hC hL (by decide))) _ rfl rfl fun u hu => ⟨hu, Ext.refl _⟩
  · intro L v w hL hD hC hI
    refine ⟨fun _ => ?_, fun hw => by cases hw⟩
    refine hI.val_step hL (by simp) ?_
    rw [show readsOf plan_29_2 4 = [] from rfl]
    exact ld_E (hI.row_old ⟨none, n4, 73, some 7, fun cs => isE (Value.agg (List.toArray cs)) (tf (V (g))), fun cs => isE (Value.agg (List.toArray cs)) ((tf (V (g))) * (tf (V (g))))⟩ (by simp) rfl (by intro s hs; cases hs; exact not_yet hC hL (by decide))) _ rfl rfl fun u hu => ⟨hu, Ext.refl _⟩
  · intro L v w hL hD hC hI
    refine ⟨fun _ => ?_, fun hw => by cases hw⟩
    have h3 : isE (v 3) (tf (V (g))) := hI.val 3 (hD 3 (by decide))
    have h4 : isE (v 4) (tf (V (g))) := hI.val 4 (hD 4 (by decide))
    refine hI.val_step hL (by simp) ?_
    rw [show readsOf plan_29_2 5 = [(14, 3), (15, 4)] from rfl]
    refine give_call _ _ _ _ rfl rfl Try.func70 (by kernel_rfl) (by kernel_rfl) ?_
    refine Calls.mono (emul h3 h4 w) ?_
    rintro e w' ⟨r, rfl, hr, hx⟩
    exact ⟨r, rfl, hr, hx⟩
  · intro L v w hL hD hC hI
    refine ⟨fun _ => ?_, fun hw => by cases hw⟩
    have h2 : isE (v 2) ((tf (V (f))) * (tf (V (f)))) := hI.val 2 (hD 2 (by decide))
    refine hI.store_step hok hL ⟨none, n3, 73, some 6, fun cs => isE (Value.agg (List.toArray cs)) (tf (V (f))), fun cs => isE (Value.agg (List.toArray cs)) ((tf (V (f))) * (tf (V (f))))⟩ (by simp) rfl (by simp) (by intro k hk; cases hk) ?_
    intro n cs hb hR hold
    change n = n3 at hb
    subst hb
    rw [show readsOf plan_29_2 6 = [(13, 2)] from rfl]
    exact st_E hR (isE_len hold) _ _ rfl rfl h2 fun w' cs' hr he hk => ⟨trivial, hk, cs', hr, he⟩
  · intro L v w hL hD hC hI
    refine ⟨fun _ => ?_, fun hw => by cases hw⟩
    have h5 : isE (v 5) ((tf (V (g))) * (tf (V (g)))) := hI.val 5 (hD 5 (by decide))
    refine hI.store_step hok hL ⟨none, n4, 73, some 7, fun cs => isE (Value.agg (List.toArray cs)) (tf (V (g))), fun cs => isE (Value.agg (List.toArray cs)) ((tf (V (g))) * (tf (V (g))))⟩ (by simp) rfl (by simp) (by intro k hk; cases hk) ?_
    intro n cs hb hR hold
    change n = n4 at hb
    subst hb
    rw [show readsOf plan_29_2 7 = [(16, 5)] from rfl]
    exact st_E hR (isE_len hold) _ _ rfl rfl h5 fun w' cs' hr he hk => ⟨trivial, hk, cs', hr, he⟩
  intro L v3 W3 hL hI
  have N_n3 : RV W3 n3 73 (fun u => isE u ((tf (V (f))) * (tf (V (f))))) := hI.row_new ⟨none, n3, 73, some 6, fun cs => isE (Value.agg (List.toArray cs)) (tf (V (f))), fun cs => isE (Value.agg (List.toArray cs)) ((tf (V (f))) * (tf (V (f))))⟩ (by simp) rfl 6 rfl (hL 6 (by decide))
  have N_n4 : RV W3 n4 73 (fun u => isE u ((tf (V (g))) * (tf (V (g))))) := hI.row_new ⟨none, n4, 73, some 7, fun cs => isE (Value.agg (List.toArray cs)) (tf (V (g))), fun cs => isE (Value.agg (List.toArray cs)) ((tf (V (g))) * (tf (V (g))))⟩ (by simp) rfl 7 rfl (hL 7 (by decide))
  replace R_b := R_b.keep hI.keep (by simp [ne_b_n3, ne_b_n4, Ne.symm ne_b_n3, Ne.symm ne_b_n4])
  clear R_n3
  have R_n3 := N_n3
  clear N_n3
  clear R_n4
  have R_n4 := N_n4
  clear N_n4
  replace lt_b := Nat.lt_of_lt_of_le lt_b hI.keep.size
  replace lt_n3 := Nat.lt_of_lt_of_le lt_n3 hI.keep.size
  replace lt_n4 := Nat.lt_of_lt_of_le lt_n4 hI.keep.size
  have hx' : Ext w W3 := Ext.keep_ hx hI.keep (by simp only [List.forall_mem_cons, List.not_mem_nil, false_implies, implies_true, and_true]; exact ⟨bs_n3, bs_n4⟩)
  clear hx hI hL hok L
  have hx := hx'
  clear hx'
  simp only [putP, Act.put, List.setIfInBounds_toArray, List.set_cons_zero, List.set_cons_succ]
  go_upto_region 3 with fail
  have hok : TrsOk [] W3.heap.size ([] : List Trk) := ⟨by simp, by simp, by simp, by simp⟩
  refine wp_region_plan (Inv [] (fun j u => match j with | 0 => isE u ((tf (V (g))) * (tf (V (g)))) | 1 => isE u ((tf (V (f))) * (tf (V (f)))) | 2 => isE u (((tf (V (g))) * (tf (V (g)))) - ((tf (V (f))) * (tf (V (f))))) | 3 => u = .agg (bcells (fb (((tf (V (g))) * (tf (V (g)))) - ((tf (V (f))) * (tf (V (f))))))) | 4 => isE u (1) | 5 => isE u (C7.d) | 6 => isE u ((tf (V (f))) * (tf (V (f)))) | 7 => isE u ((C7.d) * ((tf (V (f))) * (tf (V (f))))) | 8 => isE u ((tf (V (g))) * (tf (V (g)))) | 9 => isE u (((C7.d) * ((tf (V (f))) * (tf (V (f))))) * ((tf (V (g))) * (tf (V (g))))) | 10 => isE u ((1) + (((C7.d) * ((tf (V (f))) * (tf (V (f))))) * ((tf (V (g))) * (tf (V (g)))))) | 11 => u = .agg (bcells (fb ((1) + (((C7.d) * ((tf (V (f))) * (tf (V (f))))) * ((tf (V (g))) * (tf (V (g)))))))) | 12 => u = .bool (beqb (fb (((tf (V (g))) * (tf (V (g)))) - ((tf (V (f))) * (tf (V (f)))))) (fb ((1) + (((C7.d) * ((tf (V (f))) * (tf (V (f))))) * ((tf (V (g))) * (tf (V (g)))))))) | 13 => u = .bool (beqb (fb (((tf (V (g))) * (tf (V (g)))) - ((tf (V (f))) * (tf (V (f)))))) (fb ((1) + (((C7.d) * ((tf (V (f))) * (tf (V (f))))) * ((tf (V (g))) * (tf (V (g)))))))) | _ => True) [] W3) plan_29_3 [(17, 0), (18, 1), (19, 2), (20, 3), (21, 4), (22, 5), (23, 6), (24, 7), (25, 8), (26, 9), (27, 10), (28, 11), (29, 12), (2, 13)] 30 (by kernel_rfl) rfl (by kernel_rfl) (Inv.start hok (by simp)) ⟨?_, ?_, ?_, ?_, ?_, ?_, ?_, ?_, ?_, ?_, ?_, ?_, ?_, ?_, trivial⟩ ?_
  · intro L v w hL hD hC hI
    refine ⟨fun _ => ?_, fun hw => by cases hw⟩
    refine hI.val_step hL (by simp) ?_
    rw [show readsOf plan_29_3 0 = [] from rfl]
    exact ld_E (R_n4.keep hI.keep (by simp)) _ rfl rfl fun u hu => ⟨hu, Ext.refl _⟩
  · intro L v w hL hD hC hI
    refine ⟨fun _ => ?_, fun hw => by cases hw⟩
    refine hI.val_step hL (by simp) ?_
    rw [show readsOf plan_29_3 1 = [] from rfl]
    exact ld_E (R_n3.keep hI.keep (by simp)) _ rfl rfl fun u hu => ⟨hu, Ext.refl _⟩
  · intro L v w hL hD hC hI
    refine ⟨fun _ => ?_, fun hw => by cases hw⟩
    have h0 : isE (v 0) ((tf (V (g))) * (tf (V (g)))) := hI.val 0 (hD 0 (by decide))
    have h1 : isE (v 1) ((tf (V (f))) * (tf (V (f)))) := hI.val 1 (hD 1 (by decide))
    refine hI.val_step hL (by simp) ?_
    rw [show readsOf plan_29_3 2 = [(17, 0), (18, 1)] from rfl]
    refine give_call _ _ _ _ rfl rfl Try.func69 (by kernel_rfl) (by kernel_rfl) ?_
    refine Calls.mono (esub h0 h1 w) ?_
    rintro e w' ⟨r, rfl, hr, hx⟩
    exact ⟨r, rfl, hr, hx⟩
  · intro L v w hL hD hC hI
    refine ⟨fun _ => ?_, fun hw => by cases hw⟩
    have h2 : isE (v 2) (((tf (V (g))) * (tf (V (g)))) - ((tf (V (f))) * (tf (V (f))))) := hI.val 2 (hD 2 (by decide))
    refine hI.val_step hL (by simp) ?_
    rw [show readsOf plan_29_3 3 = [(19, 2)] from rfl]
    refine give_call _ _ _ _ rfl rfl Try.func59 (by kernel_rfl) (by kernel_rfl) ?_
    refine Calls.mono (eout h2 w) ?_
    rintro e w' ⟨rfl, hx⟩
    exact ⟨_, rfl, rfl, hx⟩
  · intro L v w hL hD hC hI
    refine ⟨fun _ => ?_, fun hw => by cases hw⟩
    refine hI.val_step hL (by simp) ?_
    rw [show readsOf plan_29_3 4 = [] from rfl]
    go_simp
    exact ⟨isE_one, Ext.refl _⟩
  · intro L v w hL hD hC hI
    refine ⟨fun _ => ?_, fun hw => by cases hw⟩
    refine hI.val_step hL (by simp) ?_
    rw [show readsOf plan_29_3 5 = [] from rfl]
    refine give_call _ _ _ _ rfl rfl Try.func72 (by kernel_rfl) (by kernel_rfl) ?_
    refine Calls.mono (d_any w) ?_
    rintro e w' ⟨r, rfl, hr, hx⟩
    exact ⟨r, rfl, hr, hx⟩
  · intro L v w hL hD hC hI
    refine ⟨fun _ => ?_, fun hw => by cases hw⟩
    refine hI.val_step hL (by simp) ?_
    rw [show readsOf plan_29_3 6 = [] from rfl]
    exact ld_E (R_n3.keep hI.keep (by simp)) _ rfl rfl fun u hu => ⟨hu, Ext.refl _⟩
  · intro L v w hL hD hC hI
    refine ⟨fun _ => ?_, fun hw => by cases hw⟩
    have h5 : isE (v 5) (C7.d) := hI.val 5 (hD 5 (by decide))
    have h6 : isE (v 6) ((tf (V (f))) * (tf (V (f)))) := hI.val 6 (hD 6 (by decide))
    refine hI.val_step hL (by simp) ?_
    rw [show readsOf plan_29_3 7 = [(22, 5), (23, 6)] from rfl]
    refine give_call _ _ _ _ rfl rfl Try.func70 (by kernel_rfl) (by kernel_rfl) ?_
    refine Calls.mono (emul h5 h6 w) ?_
    rintro e w' ⟨r, rfl, hr, hx⟩
    exact ⟨r, rfl, hr, hx⟩
  · intro L v w hL hD hC hI
    refine ⟨fun _ => ?_, fun hw => by cases hw⟩
    refine hI.val_step hL (by simp) ?_
    rw [show readsOf plan_29_3 8 = [] from rfl]
    exact ld_E (R_n4.keep hI.keep (by simp)) _ rfl rfl fun u hu => ⟨hu, Ext.refl _⟩
  · intro L v w hL hD hC hI
    refine ⟨fun _ => ?_, fun hw => by cases hw⟩
    have h7 : isE (v 7) ((C7.d) * ((tf (V (f))) * (tf (V (f))))) := hI.val 7 (hD 7 (by decide))
    have h8 : isE (v 8) ((tf (V (g))) * (tf (V (g)))) := hI.val 8 (hD 8 (by decide))
    refine hI.val_step hL (by simp) ?_
    rw [show readsOf plan_29_3 9 = [(24, 7), (25, 8)] from rfl]
    refine give_call _ _ _ _ rfl rfl Try.func70 (by kernel_rfl) (by kernel_rfl) ?_
    refine Calls.mono (emul h7 h8 w) ?_
    rintro e w' ⟨r, rfl, hr, hx⟩
    exact ⟨r, rfl, hr, hx⟩
  · intro L v w hL hD hC hI
    refine ⟨fun _ => ?_, fun hw => by cases hw⟩
    have h4 : isE (v 4) (1) := hI.val 4 (hD 4 (by decide))
    have h9 : isE (v 9) (((C7.d) * ((tf (V (f))) * (tf (V (f))))) * ((tf (V (g))) * (tf (V (g))))) := hI.val 9 (hD 9 (by decide))
    refine hI.val_step hL (by simp) ?_
    rw [show readsOf plan_29_3 10 = [(21, 4), (26, 9)] from rfl]
    refine give_call _ _ _ _ rfl rfl Try.func67 (by kernel_rfl) (by kernel_rfl) ?_
    refine Calls.mono (eadd h4 h9 w) ?_
    rintro e w' ⟨r, rfl, hr, hx⟩
    exact ⟨r, rfl, hr, hx⟩
  · intro L v w hL hD hC hI
    refine ⟨fun _ => ?_, fun hw => by cases hw⟩
    have h10 : isE (v 10) ((1) + (((C7.d) * ((tf (V (f))) * (tf (V (f))))) * ((tf (V (g))) * (tf (V (g)))))) := hI.val 10 (hD 10 (by decide))
    refine hI.val_step hL (by simp) ?_
    rw [show readsOf plan_29_3 11 = [(27, 10)] from rfl]
    refine give_call _ _ _ _ rfl rfl Try.func59 (by kernel_rfl) (by kernel_rfl) ?_
    refine Calls.mono (eout h10 w) ?_
    rintro e w' ⟨rfl, hx⟩
    exact ⟨_, rfl, rfl, hx⟩
  · intro L v w hL hD hC hI
    refine ⟨fun _ => ?_, fun hw => by cases hw⟩
    have h3 : (v 3) = .agg (bcells (fb (((tf (V (g))) * (tf (V (g)))) - ((tf (V (f))) * (tf (V (f))))))) := hI.val 3 (hD 3 (by decide))
    have h11 : (v 11) = .agg (bcells (fb ((1) + (((C7.d) * ((tf (V (f))) * (tf (V (f))))) * ((tf (V (g))) * (tf (V (g)))))))) := hI.val 11 (hD 11 (by decide))
    refine hI.val_step hL (by simp) ?_
    rw [show readsOf plan_29_3 12 = [(20, 3), (28, 11)] from rfl]
    simp only [putP, Act.put, List.setIfInBounds_toArray, List.set_cons_zero, List.set_cons_succ, h3, h11]
    go_simp
    exact ⟨rfl, Ext.refl _⟩
  · intro L v w hL hD hC hI
    refine ⟨fun _ => ?_, fun hw => by cases hw⟩
    have h12 : (v 12) = .bool (beqb (fb (((tf (V (g))) * (tf (V (g)))) - ((tf (V (f))) * (tf (V (f)))))) (fb ((1) + (((C7.d) * ((tf (V (f))) * (tf (V (f))))) * ((tf (V (g))) * (tf (V (g)))))))) := hI.val 12 (hD 12 (by decide))
    refine hI.val_step hL (by simp) ?_
    rw [show readsOf plan_29_3 13 = [(29, 12)] from rfl]
    exact ⟨h12, Ext.refl _⟩
  intro L v4 W4 hL hI
  replace R_b := R_b.keep hI.keep (by simp)
  replace R_n3 := R_n3.keep hI.keep (by simp)
  replace R_n4 := R_n4.keep hI.keep (by simp)
  replace lt_b := Nat.lt_of_lt_of_le lt_b hI.keep.size
  replace lt_n3 := Nat.lt_of_lt_of_le lt_n3 hI.keep.size
  replace lt_n4 := Nat.lt_of_lt_of_le lt_n4 hI.keep.size
  have hx' : Ext w W4 := hx.trans hI.keep.to_ext
  have hs_2_3 : (v4 13) = .bool (beqb (fb (((tf (V (g))) * (tf (V (g)))) - ((tf (V (f))) * (tf (V (f)))))) (fb ((1) + (((C7.d) * ((tf (V (f))) * (tf (V (f))))) * ((tf (V (g))) * (tf (V (g)))))))) := hI.val 13 (hL 13 (by decide))
  clear hx hI hL hok L
  have hx := hx'
  clear hx'
  simp only [putP, Act.put, List.setIfInBounds_toArray, List.set_cons_zero, List.set_cons_succ, hs_2_3]
  go_wp2
  go_ret
  refine ⟨?_, hx⟩
  rw [beqb_fb]
  rfl
def plan_82_0 : List Plan := [⟨[], []⟩, ⟨[], []⟩]
def plan_82_1 : List Plan := [⟨[], []⟩, ⟨[0], [(5, 0)]⟩, ⟨[0, 1], [(6, 1)]⟩, ⟨[], []⟩, ⟨[3], [(8, 3)]⟩, ⟨[0, 1, 2, 3, 4], [(9, 4)]⟩, ⟨[], []⟩, ⟨[], []⟩, ⟨[0, 1, 2, 3, 4, 5, 6, 7], [(7, 2), (3, 6)]⟩, ⟨[0, 1, 2, 3, 4, 5, 6, 7, 8], [(10, 5), (4, 7)]⟩]
def plan_82_2 : List Plan := [⟨[], []⟩, ⟨[], []⟩, ⟨[0, 1], [(11, 0), (12, 1)]⟩, ⟨[], []⟩, ⟨[], []⟩, ⟨[], []⟩, ⟨[4, 5], [(15, 4), (16, 5)]⟩, ⟨[0, 1, 2, 3, 4, 5, 6], [(13, 2), (14, 3), (17, 6)]⟩, ⟨[0, 1, 2, 3, 4, 5, 6, 7], [(18, 7)]⟩]
set_option maxRecDepth 20000 in
set_option maxHeartbeats 8000000 in
theorem cin_any (f g : Nat → UInt8) (w : World) :
    Calls Try.prog 82 #[.agg (pc f g)] w fun e w' => ∃ r, e = .returned r ∧ isW r (tf (V f)) (tf (V g)) 1 (tf (V f) * tf (V g)) ∧ Ext w w' := by
  go_enter Try.func82, Try.ntmps82
  have hx : Ext w w := Ext.refl w
  go_upto_region 0 with fail
  have hok : TrsOk [] w.heap.size ([⟨some 0, 0, 43, none, fun cs => (Value.agg (List.toArray cs)) = .agg (pc (f) (g)), fun _ => True⟩, ⟨some 1, 0, 91, none, fun cs => cs.length = 16, fun _ => True⟩] : List Trk) := ⟨by simp, by simp, by simp, by simp⟩
  refine wp_region_text (Inv [] (fun _ _ => True) [⟨some 0, 0, 43, none, fun cs => (Value.agg (List.toArray cs)) = .agg (pc (f) (g)), fun _ => True⟩, ⟨some 1, 0, 91, none, fun cs => cs.length = 16, fun _ => True⟩] w) plan_82_0 [(1, 0), (2, 1)] 19 rfl (by kernel_rfl) (Inv.start0 hok (by simp)) ⟨?_, ?_, trivial⟩ ?_
  · intro L v w hL hD hC hI
    refine ⟨fun _ => ?_, fun hw => by cases hw⟩
    refine hI.alloc_step hok hL ⟨some 0, 0, 43, none, fun cs => (Value.agg (List.toArray cs)) = .agg (pc (f) (g)), fun _ => True⟩ (by simp) rfl (by simp) (by intro s hs; cases hs) ?_
    rw [show readsOf plan_82_0 0 = [] from rfl]
    exact ⟨trivial, rfl, pcL f g, rfl, by show (Value.agg _ = Value.agg _); rfl⟩
  · intro L v w hL hD hC hI
    refine ⟨fun _ => ?_, fun hw => by cases hw⟩
    refine hI.alloc_step hok hL ⟨some 1, 0, 91, none, fun cs => cs.length = 16, fun _ => True⟩ (by simp) rfl (by simp) (by intro s hs; cases hs) ?_
    rw [show readsOf plan_82_0 1 = [] from rfl]
    go_simp
    first | exact ⟨rfl, _, rfl, by first | rfl | trivial⟩ | exact ⟨trivial, rfl, _, rfl, by first | rfl | trivial⟩ | exact ⟨rfl, (bcells fun _ => 0).toList, by rw [Array.toArray_toList], by simp⟩ | exact ⟨trivial, rfl, (bcells fun _ => 0).toList, by rw [Array.toArray_toList], by simp⟩
  intro L v1 W1 hL hI
  obtain ⟨b, cs, hb_b, lo_b, hr, hn, ho⟩ := hI.row_made ⟨some 0, 0, 43, none, fun cs => (Value.agg (List.toArray cs)) = .agg (pc (f) (g)), fun _ => True⟩ (by simp) 0 rfl (hL 0 (by decide))
  have R_b : RV W1 b 43 (fun u => u = .agg (pc (f) (g))) := ⟨cs, hr, ho (by intro s hs; cases hs)⟩
  clear hr hn ho
  obtain ⟨r, cs, hb_r, lo_r, hr, hn, ho⟩ := hI.row_made ⟨some 1, 0, 91, none, fun cs => cs.length = 16, fun _ => True⟩ (by simp) 1 rfl (hL 1 (by decide))
  have R_r : RL W1 r 91 16 := ⟨cs, hr, ho (by intro s hs; cases hs)⟩
  clear hr hn ho
  have ne_b_r : b ≠ r := fun e => hI.apart ⟨some 0, 0, 43, none, fun cs => (Value.agg (List.toArray cs)) = .agg (pc (f) (g)), fun _ => True⟩ (by simp) ⟨some 1, 0, 91, none, fun cs => cs.length = 16, fun _ => True⟩ (by simp) 0 1 rfl rfl (by decide) (hL 0 (by decide)) (hL 1 (by decide)) (by rw [hb_b, hb_r, e])
  have hx' : Ext w W1 := hx.trans hI.keep.to_ext
  have lt_b : b < W1.heap.size := R_b.lt
  have bs_b : w.heap.size ≤ b := Nat.le_trans hx.size lo_b
  have lt_r : r < W1.heap.size := R_r.lt
  have bs_r : w.heap.size ≤ r := Nat.le_trans hx.size lo_r
  clear hx hI hL hok L
  have hx := hx'
  clear hx'
  simp only [putP, Act.put, List.setIfInBounds_toArray, List.set_cons_zero, List.set_cons_succ, hb_b, hb_r]
  go_upto_region 1 with fail
  have hok : TrsOk [] W1.heap.size ([⟨some 6, 0, 73, some 8, fun cs => cs.length = 4, fun cs => isE (Value.agg (List.toArray cs)) (tf (V (f)))⟩, ⟨some 7, 0, 73, some 9, fun cs => cs.length = 4, fun cs => isE (Value.agg (List.toArray cs)) (tf (V (g)))⟩] : List Trk) := ⟨by simp, by simp, by simp, by simp⟩
  refine wp_region_plan (Inv [] (fun j u => match j with | 0 => u = .pointer (some ⟨b, 0, none⟩) | 1 => u = .agg (bcells (f)) | 2 => isE u (tf (V (f))) | 3 => u = .pointer (some ⟨b, 32, none⟩) | 4 => u = .agg (bcells (g)) | 5 => isE u (tf (V (g))) | _ => True) [⟨some 6, 0, 73, some 8, fun cs => cs.length = 4, fun cs => isE (Value.agg (List.toArray cs)) (tf (V (f)))⟩, ⟨some 7, 0, 73, some 9, fun cs => cs.length = 4, fun cs => isE (Value.agg (List.toArray cs)) (tf (V (g)))⟩] W1) plan_82_1 [(5, 0), (6, 1), (7, 2), (8, 3), (9, 4), (10, 5), (3, 6), (4, 7)] 19 (by kernel_rfl) rfl (by kernel_rfl) (Inv.start hok (by simp)) ⟨?_, ?_, ?_, ?_, ?_, ?_, ?_, ?_, ?_, ?_, trivial⟩ ?_
  · intro L v w hL hD hC hI
    refine ⟨fun _ => ?_, fun hw => by cases hw⟩
    refine hI.val_step hL (by simp) ?_
    rw [show readsOf plan_82_1 0 = [] from rfl]
    go_simp
    exact ⟨rfl, Ext.refl _⟩
  · intro L v w hL hD hC hI
    refine ⟨fun _ => ?_, fun hw => by cases hw⟩
    have h0 : (v 0) = .pointer (some ⟨b, 0, none⟩) := hI.val 0 (hD 0 (by decide))
    refine hI.val_step hL (by simp) ?_
    rw [show readsOf plan_82_1 1 = [(5, 0)] from rfl]
    exact ld_Px (R_b.keep hI.keep (by simp)) _ rfl h0 fun u hu => ⟨hu, Ext.refl _⟩
  · intro L v w hL hD hC hI
    refine ⟨fun _ => ?_, fun hw => by cases hw⟩
    have h1 : (v 1) = .agg (bcells (f)) := hI.val 1 (hD 1 (by decide))
    refine hI.val_step hL (by simp) ?_
    rw [show readsOf plan_82_1 2 = [(6, 1)] from rfl]
    refine give_call _ _ _ _ rfl rfl Try.func71 (by kernel_rfl) (by kernel_rfl) ?_
    refine Calls.mono (by have := ein (f) w; rwa [← h1] at this) ?_
    rintro e w' ⟨r, rfl, hr, hx⟩
    exact ⟨r, rfl, hr, hx⟩
  · intro L v w hL hD hC hI
    refine ⟨fun _ => ?_, fun hw => by cases hw⟩
    refine hI.val_step hL (by simp) ?_
    rw [show readsOf plan_82_1 3 = [] from rfl]
    go_simp
    exact ⟨rfl, Ext.refl _⟩
  · intro L v w hL hD hC hI
    refine ⟨fun _ => ?_, fun hw => by cases hw⟩
    have h3 : (v 3) = .pointer (some ⟨b, 32, none⟩) := hI.val 3 (hD 3 (by decide))
    refine hI.val_step hL (by simp) ?_
    rw [show readsOf plan_82_1 4 = [(8, 3)] from rfl]
    exact ld_Py (R_b.keep hI.keep (by simp)) _ rfl h3 fun u hu => ⟨hu, Ext.refl _⟩
  · intro L v w hL hD hC hI
    refine ⟨fun _ => ?_, fun hw => by cases hw⟩
    have h4 : (v 4) = .agg (bcells (g)) := hI.val 4 (hD 4 (by decide))
    refine hI.val_step hL (by simp) ?_
    rw [show readsOf plan_82_1 5 = [(9, 4)] from rfl]
    refine give_call _ _ _ _ rfl rfl Try.func71 (by kernel_rfl) (by kernel_rfl) ?_
    refine Calls.mono (by have := ein (g) w; rwa [← h4] at this) ?_
    rintro e w' ⟨r, rfl, hr, hx⟩
    exact ⟨r, rfl, hr, hx⟩
  · intro L v w hL hD hC hI
    refine ⟨fun _ => ?_, fun hw => by cases hw⟩
    refine hI.alloc_step hok hL ⟨some 6, 0, 73, some 8, fun cs => cs.length = 4, fun cs => isE (Value.agg (List.toArray cs)) (tf (V (f)))⟩ (by simp) rfl (by simp) (by intro s hs; cases hs; exact not_yet hC hL (by decide)) ?_
    rw [show readsOf plan_82_1 6 = [] from rfl]
    go_simp
    first | exact ⟨rfl, _, rfl, by first | rfl | trivial⟩ | exact ⟨trivial, rfl, _, rfl, by first | rfl | trivial⟩ | exact ⟨rfl, (bcells fun _ => 0).toList, by rw [Array.toArray_toList], by simp⟩ | exact ⟨trivial, rfl, (bcells fun _ => 0).toList, by rw [Array.toArray_toList], by simp⟩
  · intro L v w hL hD hC hI
    refine ⟨fun _ => ?_, fun hw => by cases hw⟩
    refine hI.alloc_step hok hL ⟨some 7, 0, 73, some 9, fun cs => cs.length = 4, fun cs => isE (Value.agg (List.toArray cs)) (tf (V (g)))⟩ (by simp) rfl (by simp) (by intro s hs; cases hs; exact not_yet hC hL (by decide)) ?_
    rw [show readsOf plan_82_1 7 = [] from rfl]
    go_simp
    first | exact ⟨rfl, _, rfl, by first | rfl | trivial⟩ | exact ⟨trivial, rfl, _, rfl, by first | rfl | trivial⟩ | exact ⟨rfl, (bcells fun _ => 0).toList, by rw [Array.toArray_toList], by simp⟩ | exact ⟨trivial, rfl, (bcells fun _ => 0).toList, by rw [Array.toArray_toList], by simp⟩
  · intro L v w hL hD hC hI
    refine ⟨fun _ => ?_, fun hw => by cases hw⟩
    have h2 : isE (v 2) (tf (V (f))) := hI.val 2 (hD 2 (by decide))
    refine hI.store_step hok hL ⟨some 6, 0, 73, some 8, fun cs => cs.length = 4, fun cs => isE (Value.agg (List.toArray cs)) (tf (V (f)))⟩ (by simp) rfl (by simp) (by intro k hk; cases hk; exact hD 6 (by decide)) ?_
    intro n cs hb hR hold
    change v 6 = .pointer (some ⟨n, 0, none⟩) at hb
    rw [show readsOf plan_82_1 8 = [(7, 2), (3, 6)] from rfl]
    exact st_E hR hold _ _ rfl hb h2 fun w' cs' hr he hk => ⟨trivial, hk, cs', hr, he⟩
  · intro L v w hL hD hC hI
    refine ⟨fun _ => ?_, fun hw => by cases hw⟩
    have h5 : isE (v 5) (tf (V (g))) := hI.val 5 (hD 5 (by decide))
    refine hI.store_step hok hL ⟨some 7, 0, 73, some 9, fun cs => cs.length = 4, fun cs => isE (Value.agg (List.toArray cs)) (tf (V (g)))⟩ (by simp) rfl (by simp) (by intro k hk; cases hk; exact hD 7 (by decide)) ?_
    intro n cs hb hR hold
    change v 7 = .pointer (some ⟨n, 0, none⟩) at hb
    rw [show readsOf plan_82_1 9 = [(10, 5), (4, 7)] from rfl]
    exact st_E hR hold _ _ rfl hb h5 fun w' cs' hr he hk => ⟨trivial, hk, cs', hr, he⟩
  intro L v2 W2 hL hI
  obtain ⟨n3, cs, hb_n3, lo_n3, hr, hn, ho⟩ := hI.row_made ⟨some 6, 0, 73, some 8, fun cs => cs.length = 4, fun cs => isE (Value.agg (List.toArray cs)) (tf (V (f)))⟩ (by simp) 6 rfl (hL 6 (by decide))
  have R_n3 : RV W2 n3 73 (fun u => isE u (tf (V (f)))) := ⟨cs, hr, hn 8 rfl (hL 8 (by decide))⟩
  clear hr hn ho
  obtain ⟨n4, cs, hb_n4, lo_n4, hr, hn, ho⟩ := hI.row_made ⟨some 7, 0, 73, some 9, fun cs => cs.length = 4, fun cs => isE (Value.agg (List.toArray cs)) (tf (V (g)))⟩ (by simp) 7 rfl (hL 7 (by decide))
  have R_n4 : RV W2 n4 73 (fun u => isE u (tf (V (g)))) := ⟨cs, hr, hn 9 rfl (hL 9 (by decide))⟩
  clear hr hn ho
  replace R_b := R_b.keep hI.keep (by simp)
  replace R_r := R_r.keep hI.keep (by simp)
  have ne_n3_n4 : n3 ≠ n4 := fun e => hI.apart ⟨some 6, 0, 73, some 8, fun cs => cs.length = 4, fun cs => isE (Value.agg (List.toArray cs)) (tf (V (f)))⟩ (by simp) ⟨some 7, 0, 73, some 9, fun cs => cs.length = 4, fun cs => isE (Value.agg (List.toArray cs)) (tf (V (g)))⟩ (by simp) 6 7 rfl rfl (by decide) (hL 6 (by decide)) (hL 7 (by decide)) (by rw [hb_n3, hb_n4, e])
  have ne_b_n3 : b ≠ n3 := Nat.ne_of_lt (Nat.lt_of_lt_of_le lt_b lo_n3)
  have ne_r_n3 : r ≠ n3 := Nat.ne_of_lt (Nat.lt_of_lt_of_le lt_r lo_n3)
  have ne_b_n4 : b ≠ n4 := Nat.ne_of_lt (Nat.lt_of_lt_of_le lt_b lo_n4)
  have ne_r_n4 : r ≠ n4 := Nat.ne_of_lt (Nat.lt_of_lt_of_le lt_r lo_n4)
  replace lt_b := Nat.lt_of_lt_of_le lt_b hI.keep.size
  replace lt_r := Nat.lt_of_lt_of_le lt_r hI.keep.size
  have hx' : Ext w W2 := hx.trans hI.keep.to_ext
  have lt_n3 : n3 < W2.heap.size := R_n3.lt
  have bs_n3 : w.heap.size ≤ n3 := Nat.le_trans hx.size lo_n3
  have lt_n4 : n4 < W2.heap.size := R_n4.lt
  have bs_n4 : w.heap.size ≤ n4 := Nat.le_trans hx.size lo_n4
  clear hx hI hL hok L
  have hx := hx'
  clear hx'
  simp only [putP, Act.put, List.setIfInBounds_toArray, List.set_cons_zero, List.set_cons_succ, hb_n3, hb_n4]
  go_upto_region 2 with fail
  have hok : TrsOk [r] W2.heap.size ([⟨none, r, 91, some 8, fun cs => cs.length = 16, fun cs => isW (Value.agg (List.toArray cs)) (tf (V (f))) (tf (V (g))) (1) ((tf (V (f))) * (tf (V (g))))⟩] : List Trk) := ⟨by simp [R_r.lt], by simp, by simp, by simp⟩
  refine wp_region_plan (Inv [r] (fun j u => match j with | 0 => isE u (tf (V (f))) | 1 => isE u (tf (V (g))) | 2 => isFl u (tf (V (f))) (tf (V (g))) | 3 => isE u (1) | 4 => isE u (tf (V (f))) | 5 => isE u (tf (V (g))) | 6 => isE u ((tf (V (f))) * (tf (V (g)))) | 7 => isW u (tf (V (f))) (tf (V (g))) (1) ((tf (V (f))) * (tf (V (g)))) | _ => True) [⟨none, r, 91, some 8, fun cs => cs.length = 16, fun cs => isW (Value.agg (List.toArray cs)) (tf (V (f))) (tf (V (g))) (1) ((tf (V (f))) * (tf (V (g))))⟩] W2) plan_82_2 [(11, 0), (12, 1), (13, 2), (14, 3), (15, 4), (16, 5), (17, 6), (18, 7)] 19 (by kernel_rfl) rfl (by kernel_rfl) (Inv.start hok (by
      simp only [List.forall_mem_cons, List.not_mem_nil, false_implies, implies_true, and_true]
      exact fun _ => R_r)) ⟨?_, ?_, ?_, ?_, ?_, ?_, ?_, ?_, ?_, trivial⟩ ?_
  · intro L v w hL hD hC hI
    refine ⟨fun _ => ?_, fun hw => by cases hw⟩
    refine hI.val_step hL (by simp) ?_
    rw [show readsOf plan_82_2 0 = [] from rfl]
    exact ld_E (R_n3.keep hI.keep (by simp [ne_r_n3, Ne.symm ne_r_n3])) _ rfl rfl fun u hu => ⟨hu, Ext.refl _⟩
  · intro L v w hL hD hC hI
    refine ⟨fun _ => ?_, fun hw => by cases hw⟩
    refine hI.val_step hL (by simp) ?_
    rw [show readsOf plan_82_2 1 = [] from rfl]
    exact ld_E (R_n4.keep hI.keep (by simp [ne_r_n4, Ne.symm ne_r_n4])) _ rfl rfl fun u hu => ⟨hu, Ext.refl _⟩
  · intro L v w hL hD hC hI
    refine ⟨fun _ => ?_, fun hw => by cases hw⟩
    have h0 : isE (v 0) (tf (V (f))) := hI.val 0 (hD 0 (by decide))
    have h1 : isE (v 1) (tf (V (g))) := hI.val 1 (hD 1 (by decide))
    refine hI.val_step hL (by simp) ?_
    rw [show readsOf plan_82_2 2 = [(11, 0), (12, 1)] from rfl]
    obtain ⟨x0, x1, x2, x3, g0, ex0⟩ := h0
    obtain ⟨y0, y1, y2, y3, g1, ey0⟩ := h1
    simp only [putP, Act.put, List.setIfInBounds_toArray, List.set_cons_zero, List.set_cons_succ, g0, g1]
    go_simp
    exact ⟨⟨x0, x1, x2, x3, y0, y1, y2, y3, rfl, ex0, ey0⟩, Ext.refl _⟩
  · intro L v w hL hD hC hI
    refine ⟨fun _ => ?_, fun hw => by cases hw⟩
    refine hI.val_step hL (by simp) ?_
    rw [show readsOf plan_82_2 3 = [] from rfl]
    go_simp
    exact ⟨isE_one, Ext.refl _⟩
  · intro L v w hL hD hC hI
    refine ⟨fun _ => ?_, fun hw => by cases hw⟩
    refine hI.val_step hL (by simp) ?_
    rw [show readsOf plan_82_2 4 = [] from rfl]
    exact ld_E (R_n3.keep hI.keep (by simp [ne_r_n3, Ne.symm ne_r_n3])) _ rfl rfl fun u hu => ⟨hu, Ext.refl _⟩
  · intro L v w hL hD hC hI
    refine ⟨fun _ => ?_, fun hw => by cases hw⟩
    refine hI.val_step hL (by simp) ?_
    rw [show readsOf plan_82_2 5 = [] from rfl]
    exact ld_E (R_n4.keep hI.keep (by simp [ne_r_n4, Ne.symm ne_r_n4])) _ rfl rfl fun u hu => ⟨hu, Ext.refl _⟩
  · intro L v w hL hD hC hI
    refine ⟨fun _ => ?_, fun hw => by cases hw⟩
    have h4 : isE (v 4) (tf (V (f))) := hI.val 4 (hD 4 (by decide))
    have h5 : isE (v 5) (tf (V (g))) := hI.val 5 (hD 5 (by decide))
    refine hI.val_step hL (by simp) ?_
    rw [show readsOf plan_82_2 6 = [(15, 4), (16, 5)] from rfl]
    refine give_call _ _ _ _ rfl rfl Try.func70 (by kernel_rfl) (by kernel_rfl) ?_
    refine Calls.mono (emul h4 h5 w) ?_
    rintro e w' ⟨r, rfl, hr, hx⟩
    exact ⟨r, rfl, hr, hx⟩
  · intro L v w hL hD hC hI
    refine ⟨fun _ => ?_, fun hw => by cases hw⟩
    have h2 : isFl (v 2) (tf (V (f))) (tf (V (g))) := hI.val 2 (hD 2 (by decide))
    have h3 : isE (v 3) (1) := hI.val 3 (hD 3 (by decide))
    have h6 : isE (v 6) ((tf (V (f))) * (tf (V (g)))) := hI.val 6 (hD 6 (by decide))
    refine hI.val_step hL (by simp) ?_
    rw [show readsOf plan_82_2 7 = [(13, 2), (14, 3), (17, 6)] from rfl]
    obtain ⟨x0, x1, x2, x3, x4, x5, x6, x7, g2, ex0, ex1⟩ := h2
    obtain ⟨y0, y1, y2, y3, g3, ey0⟩ := h3
    obtain ⟨z0, z1, z2, z3, g6, ez0⟩ := h6
    simp only [putP, Act.put, List.setIfInBounds_toArray, List.set_cons_zero, List.set_cons_succ, g2, g3, g6]
    go_simp
    exact ⟨⟨x0, x1, x2, x3, x4, x5, x6, x7, y0, y1, y2, y3, z0, z1, z2, z3, rfl, ex0, ex1, ey0, ez0⟩, Ext.refl _⟩
  · intro L v w hL hD hC hI
    refine ⟨fun _ => ?_, fun hw => by cases hw⟩
    have h7 : isW (v 7) (tf (V (f))) (tf (V (g))) (1) ((tf (V (f))) * (tf (V (g)))) := hI.val 7 (hD 7 (by decide))
    refine hI.store_step hok hL ⟨none, r, 91, some 8, fun cs => cs.length = 16, fun cs => isW (Value.agg (List.toArray cs)) (tf (V (f))) (tf (V (g))) (1) ((tf (V (f))) * (tf (V (g))))⟩ (by simp) rfl (by simp) (by intro k hk; cases hk) ?_
    intro n cs hb hR hold
    change n = r at hb
    subst hb
    rw [show readsOf plan_82_2 8 = [(18, 7)] from rfl]
    exact st_W hR hold _ _ rfl rfl h7 fun w' cs' hr he hk => ⟨trivial, hk, cs', hr, he⟩
  intro L v3 W3 hL hI
  have N_r : RV W3 r 91 (fun u => isW u (tf (V (f))) (tf (V (g))) (1) ((tf (V (f))) * (tf (V (g))))) := hI.row_new ⟨none, r, 91, some 8, fun cs => cs.length = 16, fun cs => isW (Value.agg (List.toArray cs)) (tf (V (f))) (tf (V (g))) (1) ((tf (V (f))) * (tf (V (g))))⟩ (by simp) rfl 8 rfl (hL 8 (by decide))
  replace R_b := R_b.keep hI.keep (by simp [ne_b_r, Ne.symm ne_b_r])
  replace R_n3 := R_n3.keep hI.keep (by simp [ne_r_n3, Ne.symm ne_r_n3])
  replace R_n4 := R_n4.keep hI.keep (by simp [ne_r_n4, Ne.symm ne_r_n4])
  clear R_r
  have R_r := N_r
  clear N_r
  replace lt_b := Nat.lt_of_lt_of_le lt_b hI.keep.size
  replace lt_r := Nat.lt_of_lt_of_le lt_r hI.keep.size
  replace lt_n3 := Nat.lt_of_lt_of_le lt_n3 hI.keep.size
  replace lt_n4 := Nat.lt_of_lt_of_le lt_n4 hI.keep.size
  have hx' : Ext w W3 := Ext.keep_ hx hI.keep (by simp only [List.forall_mem_cons, List.not_mem_nil, false_implies, implies_true, and_true]; exact bs_r)
  clear hx hI hL hok L
  have hx := hx'
  clear hx'
  simp only [putP, Act.put, List.setIfInBounds_toArray, List.set_cons_zero, List.set_cons_succ]
  go_wp2
  obtain ⟨cs, hr, hv⟩ := R_r
  replace hv : isW (Value.agg (List.toArray cs)) (tf (V (f))) (tf (V (g))) (1) ((tf (V (f))) * (tf (V (g)))) := hv
  obtain ⟨fs, hu'⟩ := uWd
  refine bodyPost_ret (results_cell_row (p := 2) (ty := 91) rfl _ _ r 91 _ (0, 0) _ rfl hr hu' rfl (by rw [List.size_toArray, isW_len hv]; exact iWd)) rfl ?_
  exact ⟨_, rfl, hv, hx⟩
def plan_85_0 : List Plan := [⟨[], []⟩]
def plan_85_1 : List Plan := [⟨[], []⟩, ⟨[0], [(1, 0)]⟩, ⟨[], []⟩, ⟨[], []⟩, ⟨[0, 1, 2, 3], [(2, 1), (3, 2), (4, 3)]⟩, ⟨[0, 1, 2, 3, 4], [(5, 4)]⟩]
set_option maxRecDepth 20000 in
set_option maxHeartbeats 8000000 in
theorem nought_any (w : World) :
    Calls Try.prog 85 #[] w fun e w' => ∃ r, e = .returned r ∧ isW r 0 1 1 0 ∧ Ext w w' := by
  go_enter Try.func85, Try.ntmps85
  have hx : Ext w w := Ext.refl w
  go_upto_region 0 with fail
  have hok : TrsOk [] w.heap.size ([⟨some 0, 0, 91, none, fun cs => cs.length = 16, fun _ => True⟩] : List Trk) := ⟨by simp, by simp, by simp, by simp⟩
  refine wp_region_text (Inv [] (fun _ _ => True) [⟨some 0, 0, 91, none, fun cs => cs.length = 16, fun _ => True⟩] w) plan_85_0 [(0, 0)] 6 rfl (by kernel_rfl) (Inv.start0 hok (by simp)) ⟨?_, trivial⟩ ?_
  · intro L v w hL hD hC hI
    refine ⟨fun _ => ?_, fun hw => by cases hw⟩
    refine hI.alloc_step hok hL ⟨some 0, 0, 91, none, fun cs => cs.length = 16, fun _ => True⟩ (by simp) rfl (by simp) (by intro s hs; cases hs) ?_
    rw [show readsOf plan_85_0 0 = [] from rfl]
    go_simp
    first | exact ⟨rfl, _, rfl, by first | rfl | trivial⟩ | exact ⟨trivial, rfl, _, rfl, by first | rfl | trivial⟩ | exact ⟨rfl, (bcells fun _ => 0).toList, by rw [Array.toArray_toList], by simp⟩ | exact ⟨trivial, rfl, (bcells fun _ => 0).toList, by rw [Array.toArray_toList], by simp⟩
  intro L v1 W1 hL hI
  obtain ⟨r, cs, hb_r, lo_r, hr, hn, ho⟩ := hI.row_made ⟨some 0, 0, 91, none, fun cs => cs.length = 16, fun _ => True⟩ (by simp) 0 rfl (hL 0 (by decide))
  have R_r : RL W1 r 91 16 := ⟨cs, hr, ho (by intro s hs; cases hs)⟩
  clear hr hn ho
  have hx' : Ext w W1 := hx.trans hI.keep.to_ext
  have lt_r : r < W1.heap.size := R_r.lt
  have bs_r : w.heap.size ≤ r := Nat.le_trans hx.size lo_r
  clear hx hI hL hok L
  have hx := hx'
  clear hx'
  simp only [putP, Act.put, List.setIfInBounds_toArray, List.set_cons_zero, List.set_cons_succ, hb_r]
  go_upto_region 1 with fail
  have hok : TrsOk [r] W1.heap.size ([⟨none, r, 91, some 5, fun cs => cs.length = 16, fun cs => isW (Value.agg (List.toArray cs)) (0) (1) (1) (0)⟩] : List Trk) := ⟨by simp [R_r.lt], by simp, by simp, by simp⟩
  refine wp_region_text (Inv [r] (fun j u => match j with | 0 => isE u (1) | 1 => isFl u (0) (1) | 2 => isE u (1) | 3 => isE u (0) | 4 => isW u (0) (1) (1) (0) | _ => True) [⟨none, r, 91, some 5, fun cs => cs.length = 16, fun cs => isW (Value.agg (List.toArray cs)) (0) (1) (1) (0)⟩] W1) plan_85_1 [(1, 0), (2, 1), (3, 2), (4, 3), (5, 4)] 6 rfl (by kernel_rfl) (Inv.start0 hok (by
      simp only [List.forall_mem_cons, List.not_mem_nil, false_implies, implies_true, and_true]
      exact fun _ => R_r)) ⟨?_, ?_, ?_, ?_, ?_, ?_, trivial⟩ ?_
  · intro L v w hL hD hC hI
    refine ⟨fun _ => ?_, fun hw => by cases hw⟩
    refine hI.val_step hL (by simp) ?_
    rw [show readsOf plan_85_1 0 = [] from rfl]
    go_simp
    exact ⟨isE_one, Ext.refl _⟩
  · intro L v w hL hD hC hI
    refine ⟨fun _ => ?_, fun hw => by cases hw⟩
    have h0 : isE (v 0) (1) := hI.val 0 (hD 0 (by decide))
    refine hI.val_step hL (by simp) ?_
    rw [show readsOf plan_85_1 1 = [(1, 0)] from rfl]
    obtain ⟨x0, x1, x2, x3, g0, ex0⟩ := h0
    simp only [putP, Act.put, List.setIfInBounds_toArray, List.set_cons_zero, List.set_cons_succ, g0]
    go_simp
    exact ⟨⟨0, 0, 0, 0, x0, x1, x2, x3, rfl, tf_zero4, ex0⟩, Ext.refl _⟩
  · intro L v w hL hD hC hI
    refine ⟨fun _ => ?_, fun hw => by cases hw⟩
    refine hI.val_step hL (by simp) ?_
    rw [show readsOf plan_85_1 2 = [] from rfl]
    go_simp
    exact ⟨isE_one, Ext.refl _⟩
  · intro L v w hL hD hC hI
    refine ⟨fun _ => ?_, fun hw => by cases hw⟩
    refine hI.val_step hL (by simp) ?_
    rw [show readsOf plan_85_1 3 = [] from rfl]
    go_simp
    exact ⟨isE_zero, Ext.refl _⟩
  · intro L v w hL hD hC hI
    refine ⟨fun _ => ?_, fun hw => by cases hw⟩
    have h1 : isFl (v 1) (0) (1) := hI.val 1 (hD 1 (by decide))
    have h2 : isE (v 2) (1) := hI.val 2 (hD 2 (by decide))
    have h3 : isE (v 3) (0) := hI.val 3 (hD 3 (by decide))
    refine hI.val_step hL (by simp) ?_
    rw [show readsOf plan_85_1 4 = [(2, 1), (3, 2), (4, 3)] from rfl]
    obtain ⟨x0, x1, x2, x3, x4, x5, x6, x7, g1, ex0, ex1⟩ := h1
    obtain ⟨y0, y1, y2, y3, g2, ey0⟩ := h2
    obtain ⟨z0, z1, z2, z3, g3, ez0⟩ := h3
    simp only [putP, Act.put, List.setIfInBounds_toArray, List.set_cons_zero, List.set_cons_succ, g1, g2, g3]
    go_simp
    exact ⟨⟨x0, x1, x2, x3, x4, x5, x6, x7, y0, y1, y2, y3, z0, z1, z2, z3, rfl, ex0, ex1, ey0, ez0⟩, Ext.refl _⟩
  · intro L v w hL hD hC hI
    refine ⟨fun _ => ?_, fun hw => by cases hw⟩
    have h4 : isW (v 4) (0) (1) (1) (0) := hI.val 4 (hD 4 (by decide))
    refine hI.store_step hok hL ⟨none, r, 91, some 5, fun cs => cs.length = 16, fun cs => isW (Value.agg (List.toArray cs)) (0) (1) (1) (0)⟩ (by simp) rfl (by simp) (by intro k hk; cases hk) ?_
    intro n cs hb hR hold
    change n = r at hb
    subst hb
    rw [show readsOf plan_85_1 5 = [(5, 4)] from rfl]
    exact st_W hR hold _ _ rfl rfl h4 fun w' cs' hr he hk => ⟨trivial, hk, cs', hr, he⟩
  intro L v2 W2 hL hI
  have N_r : RV W2 r 91 (fun u => isW u (0) (1) (1) (0)) := hI.row_new ⟨none, r, 91, some 5, fun cs => cs.length = 16, fun cs => isW (Value.agg (List.toArray cs)) (0) (1) (1) (0)⟩ (by simp) rfl 5 rfl (hL 5 (by decide))
  clear R_r
  have R_r := N_r
  clear N_r
  replace lt_r := Nat.lt_of_lt_of_le lt_r hI.keep.size
  have hx' : Ext w W2 := Ext.keep_ hx hI.keep (by simp only [List.forall_mem_cons, List.not_mem_nil, false_implies, implies_true, and_true]; exact bs_r)
  clear hx hI hL hok L
  have hx := hx'
  clear hx'
  simp only [putP, Act.put, List.setIfInBounds_toArray, List.set_cons_zero, List.set_cons_succ]
  go_wp2
  obtain ⟨cs, hr, hv⟩ := R_r
  replace hv : isW (Value.agg (List.toArray cs)) (0) (1) (1) (0) := hv
  obtain ⟨fs, hu'⟩ := uWd
  refine bodyPost_ret (results_cell_row (p := 0) (ty := 91) rfl _ _ r 91 _ (0, 0) _ rfl hr hu' rfl (by rw [List.size_toArray, isW_len hv]; exact iWd)) rfl ?_
  exact ⟨_, rfl, hv, hx⟩
def plan_84_0 : List Plan := [⟨[], []⟩, ⟨[], []⟩]
def plan_84_1 : List Plan := [⟨[], []⟩, ⟨[0], [(4, 0)]⟩, ⟨[0, 1], [(5, 1)]⟩, ⟨[], []⟩, ⟨[0, 1, 2, 3], [(6, 2), (3, 3)]⟩]
def plan_84_2 : List Plan := [⟨[], []⟩, ⟨[0], [(7, 0)]⟩, ⟨[0, 1], [(8, 1)]⟩, ⟨[], []⟩, ⟨[0, 1, 2, 3], [(9, 2), (10, 3)]⟩, ⟨[0, 1, 2, 3, 4], [(11, 4)]⟩, ⟨[], []⟩, ⟨[6], [(13, 6)]⟩, ⟨[6, 7], [(14, 7)]⟩, ⟨[], []⟩, ⟨[0, 1, 2, 3, 4, 5, 6, 7, 8, 9], [(15, 8), (16, 9)]⟩, ⟨[0, 1, 2, 3, 4, 5, 6, 7, 8, 9, 10], [(17, 10)]⟩, ⟨[0, 1, 2, 3, 4, 5, 6, 7, 8, 9, 10, 11], [(12, 5), (18, 11)]⟩, ⟨[0, 1, 2, 3, 4, 5, 6, 7, 8, 9, 10, 11, 12], [(19, 12)]⟩]
set_option maxRecDepth 20000 in
set_option maxHeartbeats 8000000 in
theorem cout_any {u : Value} {P : P7} (hu : isP u P) (w : World) :
    Calls Try.prog 84 #[u] w fun e w' => e = .returned (.agg (pc (fb P.x) (fb P.y))) ∧ Ext w w' := by
  obtain ⟨X1, Y1, Z1, T1, hu, hP⟩ := hu
  obtain ⟨c0, rfl, -, -, hc0⟩ := isW_cells hu
  clear hu
  go_enter Try.func84, Try.ntmps84
  have hx : Ext w w := Ext.refl w
  go_upto_region 0 with fail
  have hok : TrsOk [] w.heap.size ([⟨some 0, 0, 91, none, fun cs => isW (Value.agg (List.toArray cs)) (X1) (Y1) (Z1) (T1), fun _ => True⟩, ⟨some 1, 0, 43, none, fun cs => cs.length = 64, fun _ => True⟩] : List Trk) := ⟨by simp, by simp, by simp, by simp⟩
  refine wp_region_text (Inv [] (fun _ _ => True) [⟨some 0, 0, 91, none, fun cs => isW (Value.agg (List.toArray cs)) (X1) (Y1) (Z1) (T1), fun _ => True⟩, ⟨some 1, 0, 43, none, fun cs => cs.length = 64, fun _ => True⟩] w) plan_84_0 [(1, 0), (2, 1)] 20 rfl (by kernel_rfl) (Inv.start0 hok (by simp)) ⟨?_, ?_, trivial⟩ ?_
  · intro L v w hL hD hC hI
    refine ⟨fun _ => ?_, fun hw => by cases hw⟩
    refine hI.alloc_step hok hL ⟨some 0, 0, 91, none, fun cs => isW (Value.agg (List.toArray cs)) (X1) (Y1) (Z1) (T1), fun _ => True⟩ (by simp) rfl (by simp) (by intro s hs; cases hs) ?_
    rw [show readsOf plan_84_0 0 = [] from rfl]
    exact ⟨trivial, rfl, c0.toList, by first | rfl | (rw [Array.toArray_toList]; rfl), hc0⟩
  · intro L v w hL hD hC hI
    refine ⟨fun _ => ?_, fun hw => by cases hw⟩
    refine hI.alloc_step hok hL ⟨some 1, 0, 43, none, fun cs => cs.length = 64, fun _ => True⟩ (by simp) rfl (by simp) (by intro s hs; cases hs) ?_
    rw [show readsOf plan_84_0 1 = [] from rfl]
    go_simp
    first | exact ⟨rfl, _, rfl, by first | rfl | trivial⟩ | exact ⟨trivial, rfl, _, rfl, by first | rfl | trivial⟩ | exact ⟨rfl, (bcells fun _ => 0).toList, by rw [Array.toArray_toList], by simp⟩ | exact ⟨trivial, rfl, (bcells fun _ => 0).toList, by rw [Array.toArray_toList], by simp⟩
  intro L v1 W1 hL hI
  obtain ⟨bu, cs, hb_bu, lo_bu, hr, hn, ho⟩ := hI.row_made ⟨some 0, 0, 91, none, fun cs => isW (Value.agg (List.toArray cs)) (X1) (Y1) (Z1) (T1), fun _ => True⟩ (by simp) 0 rfl (hL 0 (by decide))
  have R_bu : RV W1 bu 91 (fun u => isW u (X1) (Y1) (Z1) (T1)) := ⟨cs, hr, ho (by intro s hs; cases hs)⟩
  clear hr hn ho
  obtain ⟨r, cs, hb_r, lo_r, hr, hn, ho⟩ := hI.row_made ⟨some 1, 0, 43, none, fun cs => cs.length = 64, fun _ => True⟩ (by simp) 1 rfl (hL 1 (by decide))
  have R_r : RL W1 r 43 64 := ⟨cs, hr, ho (by intro s hs; cases hs)⟩
  clear hr hn ho
  have ne_bu_r : bu ≠ r := fun e => hI.apart ⟨some 0, 0, 91, none, fun cs => isW (Value.agg (List.toArray cs)) (X1) (Y1) (Z1) (T1), fun _ => True⟩ (by simp) ⟨some 1, 0, 43, none, fun cs => cs.length = 64, fun _ => True⟩ (by simp) 0 1 rfl rfl (by decide) (hL 0 (by decide)) (hL 1 (by decide)) (by rw [hb_bu, hb_r, e])
  have hx' : Ext w W1 := hx.trans hI.keep.to_ext
  have lt_bu : bu < W1.heap.size := R_bu.lt
  have bs_bu : w.heap.size ≤ bu := Nat.le_trans hx.size lo_bu
  have lt_r : r < W1.heap.size := R_r.lt
  have bs_r : w.heap.size ≤ r := Nat.le_trans hx.size lo_r
  clear hx hI hL hok L
  have hx := hx'
  clear hx'
  simp only [putP, Act.put, List.setIfInBounds_toArray, List.set_cons_zero, List.set_cons_succ, hb_bu, hb_r]
  go_upto_region 1 with fail
  have hok : TrsOk [] W1.heap.size ([⟨some 3, 0, 73, some 4, fun cs => cs.length = 4, fun cs => isE (Value.agg (List.toArray cs)) (fiv (Z1))⟩] : List Trk) := ⟨by simp, by simp, by simp, by simp⟩
  refine wp_region_text (Inv [] (fun j u => match j with | 0 => u = .pointer (some ⟨bu, 8, none⟩) | 1 => isE u (Z1) | 2 => isE u (fiv (Z1)) | _ => True) [⟨some 3, 0, 73, some 4, fun cs => cs.length = 4, fun cs => isE (Value.agg (List.toArray cs)) (fiv (Z1))⟩] W1) plan_84_1 [(4, 0), (5, 1), (6, 2), (3, 3)] 20 rfl (by kernel_rfl) (Inv.start0 hok (by simp)) ⟨?_, ?_, ?_, ?_, ?_, trivial⟩ ?_
  · intro L v w hL hD hC hI
    refine ⟨fun _ => ?_, fun hw => by cases hw⟩
    refine hI.val_step hL (by simp) ?_
    rw [show readsOf plan_84_1 0 = [] from rfl]
    go_simp
    exact ⟨rfl, Ext.refl _⟩
  · intro L v w hL hD hC hI
    refine ⟨fun _ => ?_, fun hw => by cases hw⟩
    have h0 : (v 0) = .pointer (some ⟨bu, 8, none⟩) := hI.val 0 (hD 0 (by decide))
    refine hI.val_step hL (by simp) ?_
    rw [show readsOf plan_84_1 1 = [(4, 0)] from rfl]
    exact ld_Wz (R_bu.keep hI.keep (by simp)) _ rfl h0 fun u hu => ⟨hu, Ext.refl _⟩
  · intro L v w hL hD hC hI
    refine ⟨fun _ => ?_, fun hw => by cases hw⟩
    have h1 : isE (v 1) (Z1) := hI.val 1 (hD 1 (by decide))
    refine hI.val_step hL (by simp) ?_
    rw [show readsOf plan_84_1 2 = [(5, 1)] from rfl]
    refine give_call _ _ _ _ rfl rfl Try.func58 (by kernel_rfl) (by kernel_rfl) ?_
    refine Calls.mono (einv h1 w) ?_
    rintro e w' ⟨r, rfl, hr, hx⟩
    exact ⟨r, rfl, hr, hx⟩
  · intro L v w hL hD hC hI
    refine ⟨fun _ => ?_, fun hw => by cases hw⟩
    refine hI.alloc_step hok hL ⟨some 3, 0, 73, some 4, fun cs => cs.length = 4, fun cs => isE (Value.agg (List.toArray cs)) (fiv (Z1))⟩ (by simp) rfl (by simp) (by intro s hs; cases hs; exact not_yet hC hL (by decide)) ?_
    rw [show readsOf plan_84_1 3 = [] from rfl]
    go_simp
    first | exact ⟨rfl, _, rfl, by first | rfl | trivial⟩ | exact ⟨trivial, rfl, _, rfl, by first | rfl | trivial⟩ | exact ⟨rfl, (bcells fun _ => 0).toList, by rw [Array.toArray_toList], by simp⟩ | exact ⟨trivial, rfl, (bcells fun _ => 0).toList, by rw [Array.toArray_toList], by simp⟩
  · intro L v w hL hD hC hI
    refine ⟨fun _ => ?_, fun hw => by cases hw⟩
    have h2 : isE (v 2) (fiv (Z1)) := hI.val 2 (hD 2 (by decide))
    refine hI.store_step hok hL ⟨some 3, 0, 73, some 4, fun cs => cs.length = 4, fun cs => isE (Value.agg (List.toArray cs)) (fiv (Z1))⟩ (by simp) rfl (by simp) (by intro k hk; cases hk; exact hD 3 (by decide)) ?_
    intro n cs hb hR hold
    change v 3 = .pointer (some ⟨n, 0, none⟩) at hb
    rw [show readsOf plan_84_1 4 = [(6, 2), (3, 3)] from rfl]
    exact st_E hR hold _ _ rfl hb h2 fun w' cs' hr he hk => ⟨trivial, hk, cs', hr, he⟩
  intro L v2 W2 hL hI
  obtain ⟨n3, cs, hb_n3, lo_n3, hr, hn, ho⟩ := hI.row_made ⟨some 3, 0, 73, some 4, fun cs => cs.length = 4, fun cs => isE (Value.agg (List.toArray cs)) (fiv (Z1))⟩ (by simp) 3 rfl (hL 3 (by decide))
  have R_n3 : RV W2 n3 73 (fun u => isE u (fiv (Z1))) := ⟨cs, hr, hn 4 rfl (hL 4 (by decide))⟩
  clear hr hn ho
  replace R_bu := R_bu.keep hI.keep (by simp)
  replace R_r := R_r.keep hI.keep (by simp)
  have ne_bu_n3 : bu ≠ n3 := Nat.ne_of_lt (Nat.lt_of_lt_of_le lt_bu lo_n3)
  have ne_r_n3 : r ≠ n3 := Nat.ne_of_lt (Nat.lt_of_lt_of_le lt_r lo_n3)
  replace lt_bu := Nat.lt_of_lt_of_le lt_bu hI.keep.size
  replace lt_r := Nat.lt_of_lt_of_le lt_r hI.keep.size
  have hx' : Ext w W2 := hx.trans hI.keep.to_ext
  have lt_n3 : n3 < W2.heap.size := R_n3.lt
  have bs_n3 : w.heap.size ≤ n3 := Nat.le_trans hx.size lo_n3
  clear hx hI hL hok L
  have hx := hx'
  clear hx'
  simp only [putP, Act.put, List.setIfInBounds_toArray, List.set_cons_zero, List.set_cons_succ, hb_n3]
  go_upto_region 2 with fail
  have hok : TrsOk [r] W2.heap.size ([⟨none, r, 43, some 13, fun cs => cs.length = 64, fun cs => (Value.agg (List.toArray cs)) = .agg (pc (fb ((X1) * (fiv (Z1)))) (fb ((Y1) * (fiv (Z1)))))⟩] : List Trk) := ⟨by simp [R_r.lt], by simp, by simp, by simp⟩
  refine wp_region_plan (Inv [r] (fun j u => match j with | 0 => u = .pointer (some ⟨bu, 0, none⟩) | 1 => u = .pointer (some ⟨bu, 0, none⟩) | 2 => isE u (X1) | 3 => isE u (fiv (Z1)) | 4 => isE u ((X1) * (fiv (Z1))) | 5 => u = .agg (bcells (fb ((X1) * (fiv (Z1))))) | 6 => u = .pointer (some ⟨bu, 0, none⟩) | 7 => u = .pointer (some ⟨bu, 4, none⟩) | 8 => isE u (Y1) | 9 => isE u (fiv (Z1)) | 10 => isE u ((Y1) * (fiv (Z1))) | 11 => u = .agg (bcells (fb ((Y1) * (fiv (Z1))))) | 12 => u = .agg (pc (fb ((X1) * (fiv (Z1)))) (fb ((Y1) * (fiv (Z1))))) | _ => True) [⟨none, r, 43, some 13, fun cs => cs.length = 64, fun cs => (Value.agg (List.toArray cs)) = .agg (pc (fb ((X1) * (fiv (Z1)))) (fb ((Y1) * (fiv (Z1)))))⟩] W2) plan_84_2 [(7, 0), (8, 1), (9, 2), (10, 3), (11, 4), (12, 5), (13, 6), (14, 7), (15, 8), (16, 9), (17, 10), (18, 11), (19, 12)] 20 (by kernel_rfl) rfl (by kernel_rfl) (Inv.start hok (by
      simp only [List.forall_mem_cons, List.not_mem_nil, false_implies, implies_true, and_true]
      exact fun _ => R_r)) ⟨?_, ?_, ?_, ?_, ?_, ?_, ?_, ?_, ?_, ?_, ?_, ?_, ?_, ?_, trivial⟩ ?_
  · intro L v w hL hD hC hI
    refine ⟨fun _ => ?_, fun hw => by cases hw⟩
    refine hI.val_step hL (by simp) ?_
    rw [show readsOf plan_84_2 0 = [] from rfl]
    go_simp
    exact ⟨rfl, Ext.refl _⟩
  · intro L v w hL hD hC hI
    refine ⟨fun _ => ?_, fun hw => by cases hw⟩
    have h0 : (v 0) = .pointer (some ⟨bu, 0, none⟩) := hI.val 0 (hD 0 (by decide))
    refine hI.val_step hL (by simp) ?_
    rw [show readsOf plan_84_2 1 = [(7, 0)] from rfl]
    simp only [putP, Act.put, List.setIfInBounds_toArray, List.set_cons_zero, List.set_cons_succ, h0]
    go_simp
    exact ⟨rfl, Ext.refl _⟩
  · intro L v w hL hD hC hI
    refine ⟨fun _ => ?_, fun hw => by cases hw⟩
    have h1 : (v 1) = .pointer (some ⟨bu, 0, none⟩) := hI.val 1 (hD 1 (by decide))
    refine hI.val_step hL (by simp) ?_
    rw [show readsOf plan_84_2 2 = [(8, 1)] from rfl]
    exact ld_Wx (R_bu.keep hI.keep (by simp [ne_bu_r, Ne.symm ne_bu_r])) _ rfl h1 fun u hu => ⟨hu, Ext.refl _⟩
  · intro L v w hL hD hC hI
    refine ⟨fun _ => ?_, fun hw => by cases hw⟩
    refine hI.val_step hL (by simp) ?_
    rw [show readsOf plan_84_2 3 = [] from rfl]
    exact ld_E (R_n3.keep hI.keep (by simp [ne_r_n3, Ne.symm ne_r_n3])) _ rfl rfl fun u hu => ⟨hu, Ext.refl _⟩
  · intro L v w hL hD hC hI
    refine ⟨fun _ => ?_, fun hw => by cases hw⟩
    have h2 : isE (v 2) (X1) := hI.val 2 (hD 2 (by decide))
    have h3 : isE (v 3) (fiv (Z1)) := hI.val 3 (hD 3 (by decide))
    refine hI.val_step hL (by simp) ?_
    rw [show readsOf plan_84_2 4 = [(9, 2), (10, 3)] from rfl]
    refine give_call _ _ _ _ rfl rfl Try.func70 (by kernel_rfl) (by kernel_rfl) ?_
    refine Calls.mono (emul h2 h3 w) ?_
    rintro e w' ⟨r, rfl, hr, hx⟩
    exact ⟨r, rfl, hr, hx⟩
  · intro L v w hL hD hC hI
    refine ⟨fun _ => ?_, fun hw => by cases hw⟩
    have h4 : isE (v 4) ((X1) * (fiv (Z1))) := hI.val 4 (hD 4 (by decide))
    refine hI.val_step hL (by simp) ?_
    rw [show readsOf plan_84_2 5 = [(11, 4)] from rfl]
    refine give_call _ _ _ _ rfl rfl Try.func59 (by kernel_rfl) (by kernel_rfl) ?_
    refine Calls.mono (eout h4 w) ?_
    rintro e w' ⟨rfl, hx⟩
    exact ⟨_, rfl, rfl, hx⟩
  · intro L v w hL hD hC hI
    refine ⟨fun _ => ?_, fun hw => by cases hw⟩
    refine hI.val_step hL (by simp) ?_
    rw [show readsOf plan_84_2 6 = [] from rfl]
    go_simp
    exact ⟨rfl, Ext.refl _⟩
  · intro L v w hL hD hC hI
    refine ⟨fun _ => ?_, fun hw => by cases hw⟩
    have h6 : (v 6) = .pointer (some ⟨bu, 0, none⟩) := hI.val 6 (hD 6 (by decide))
    refine hI.val_step hL (by simp) ?_
    rw [show readsOf plan_84_2 7 = [(13, 6)] from rfl]
    simp only [putP, Act.put, List.setIfInBounds_toArray, List.set_cons_zero, List.set_cons_succ, h6]
    go_simp
    exact ⟨rfl, Ext.refl _⟩
  · intro L v w hL hD hC hI
    refine ⟨fun _ => ?_, fun hw => by cases hw⟩
    have h7 : (v 7) = .pointer (some ⟨bu, 4, none⟩) := hI.val 7 (hD 7 (by decide))
    refine hI.val_step hL (by simp) ?_
    rw [show readsOf plan_84_2 8 = [(14, 7)] from rfl]
    exact ld_Wy (R_bu.keep hI.keep (by simp [ne_bu_r, Ne.symm ne_bu_r])) _ rfl h7 fun u hu => ⟨hu, Ext.refl _⟩
  · intro L v w hL hD hC hI
    refine ⟨fun _ => ?_, fun hw => by cases hw⟩
    refine hI.val_step hL (by simp) ?_
    rw [show readsOf plan_84_2 9 = [] from rfl]
    exact ld_E (R_n3.keep hI.keep (by simp [ne_r_n3, Ne.symm ne_r_n3])) _ rfl rfl fun u hu => ⟨hu, Ext.refl _⟩
  · intro L v w hL hD hC hI
    refine ⟨fun _ => ?_, fun hw => by cases hw⟩
    have h8 : isE (v 8) (Y1) := hI.val 8 (hD 8 (by decide))
    have h9 : isE (v 9) (fiv (Z1)) := hI.val 9 (hD 9 (by decide))
    refine hI.val_step hL (by simp) ?_
    rw [show readsOf plan_84_2 10 = [(15, 8), (16, 9)] from rfl]
    refine give_call _ _ _ _ rfl rfl Try.func70 (by kernel_rfl) (by kernel_rfl) ?_
    refine Calls.mono (emul h8 h9 w) ?_
    rintro e w' ⟨r, rfl, hr, hx⟩
    exact ⟨r, rfl, hr, hx⟩
  · intro L v w hL hD hC hI
    refine ⟨fun _ => ?_, fun hw => by cases hw⟩
    have h10 : isE (v 10) ((Y1) * (fiv (Z1))) := hI.val 10 (hD 10 (by decide))
    refine hI.val_step hL (by simp) ?_
    rw [show readsOf plan_84_2 11 = [(17, 10)] from rfl]
    refine give_call _ _ _ _ rfl rfl Try.func59 (by kernel_rfl) (by kernel_rfl) ?_
    refine Calls.mono (eout h10 w) ?_
    rintro e w' ⟨rfl, hx⟩
    exact ⟨_, rfl, rfl, hx⟩
  · intro L v w hL hD hC hI
    refine ⟨fun _ => ?_, fun hw => by cases hw⟩
    have h5 : (v 5) = .agg (bcells (fb ((X1) * (fiv (Z1))))) := hI.val 5 (hD 5 (by decide))
    have h11 : (v 11) = .agg (bcells (fb ((Y1) * (fiv (Z1))))) := hI.val 11 (hD 11 (by decide))
    refine hI.val_step hL (by simp) ?_
    rw [show readsOf plan_84_2 12 = [(12, 5), (18, 11)] from rfl]
    exact bd_P _ _ rfl h5 h11 fun u hu => ⟨hu, Ext.refl _⟩
  · intro L v w hL hD hC hI
    refine ⟨fun _ => ?_, fun hw => by cases hw⟩
    have h12 : (v 12) = .agg (pc (fb ((X1) * (fiv (Z1)))) (fb ((Y1) * (fiv (Z1))))) := hI.val 12 (hD 12 (by decide))
    refine hI.store_step hok hL ⟨none, r, 43, some 13, fun cs => cs.length = 64, fun cs => (Value.agg (List.toArray cs)) = .agg (pc (fb ((X1) * (fiv (Z1)))) (fb ((Y1) * (fiv (Z1)))))⟩ (by simp) rfl (by simp) (by intro k hk; cases hk) ?_
    intro n cs hb hR hold
    change n = r at hb
    subst hb
    rw [show readsOf plan_84_2 13 = [(19, 12)] from rfl]
    exact st_P hR hold _ _ rfl rfl h12 fun w' cs' hr he hk => ⟨trivial, hk, cs', hr, he⟩
  intro L v3 W3 hL hI
  have N_r : RV W3 r 43 (fun u => u = .agg (pc (fb ((X1) * (fiv (Z1)))) (fb ((Y1) * (fiv (Z1)))))) := hI.row_new ⟨none, r, 43, some 13, fun cs => cs.length = 64, fun cs => (Value.agg (List.toArray cs)) = .agg (pc (fb ((X1) * (fiv (Z1)))) (fb ((Y1) * (fiv (Z1)))))⟩ (by simp) rfl 13 rfl (hL 13 (by decide))
  replace R_bu := R_bu.keep hI.keep (by simp [ne_bu_r, Ne.symm ne_bu_r])
  replace R_n3 := R_n3.keep hI.keep (by simp [ne_r_n3, Ne.symm ne_r_n3])
  clear R_r
  have R_r := N_r
  clear N_r
  replace lt_bu := Nat.lt_of_lt_of_le lt_bu hI.keep.size
  replace lt_r := Nat.lt_of_lt_of_le lt_r hI.keep.size
  replace lt_n3 := Nat.lt_of_lt_of_le lt_n3 hI.keep.size
  have hx' : Ext w W3 := Ext.keep_ hx hI.keep (by simp only [List.forall_mem_cons, List.not_mem_nil, false_implies, implies_true, and_true]; exact bs_r)
  clear hx hI hL hok L
  have hx := hx'
  clear hx'
  simp only [putP, Act.put, List.setIfInBounds_toArray, List.set_cons_zero, List.set_cons_succ]
  go_wp2
  obtain ⟨cs, hr, hv⟩ := R_r
  replace hv : (Value.agg (List.toArray cs)) = .agg (pc (fb ((X1) * (fiv (Z1)))) (fb ((Y1) * (fiv (Z1))))) := hv
  obtain ⟨fs, hu'⟩ := uPt
  refine bodyPost_ret (results_cell_row (p := 2) (ty := 43) rfl _ _ r 43 _ (0, 0) _ rfl hr hu' rfl (by rw [List.size_toArray, (show cs.length = 64 by rw [pcL_of hv]; exact pcL_len _ _)]; exact iPt)) rfl ?_
  have ho : X1 * fiv Z1 = P.x ∧ Y1 * fiv Z1 = P.y := hP.out
  have hv2 : Value.agg (List.toArray cs) = Value.agg (pc (fb (X1 * fiv Z1)) (fb (Y1 * fiv Z1))) := hv
  exact ⟨by rw [hv2, ho.1, ho.2], hx⟩
end Go.Proofs.Ytndohjgfjbopnaa
