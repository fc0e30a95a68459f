import Derived.Test.YtndohjgfjbopnaaCrvG
import Derived.Test.YtndohjgfjbopnaaRO
section
/-
  Points in rows, for the walk's own steps.
-/
set_option linter.unusedSimpArgs false
set_option linter.unusedVariables false
namespace Go.Cv
open Go.RowKit
/-- A block's 64 cells. -/
def ptOpt (W : World) (n : Nat) : Option (Array Value) := match W.heap[n]? with | some (.cells c _ (0, 0)) => if c.size = 64 then some c else none | _ => none
theorem ptOpt_some {W : World} {n : Nat} {c : Array Value} (h : ptOpt W n = some c) : ∃ t, W.heap[n]? = some (.cells c t (0, 0)) ∧ c.size = 64 := by
  unfold ptOpt at h
  split at h
  · rename_i c' t hc
    split at h
    · rename_i h32
      cases h
      exact ⟨t, hc, h32⟩
    · cases h
  · cases h
@[go_sem] theorem ptOpt_at {w : World} (c : Array Value) (t : TypeId) (n : Nat) (hn : n = w.heap.size) (hc : c.size = 64) : ptOpt (w.alloc (.cells c t)) n = some c := by
  subst hn
  unfold ptOpt
  rw [heap_alloc_last]
  simp [hc]
@[go_sem] theorem ptOpt_past {w : World} (o : Obj) (n : Nat) (hn : n < w.heap.size) : ptOpt (w.alloc o) n = ptOpt w n := by
  unfold ptOpt
  rw [ext_heap (ext_alloc w o) hn]
@[go_sem] theorem ptOpt_grw {w : World} (x : Nat × Array Obj) (n : Nat) (hn : n < w.heap.size) : ptOpt (grw w x) n = ptOpt w n := by
  unfold ptOpt
  rw [ext_heap (grw_ext w x) hn]
@[go_sem] theorem ptOpt_drew (w : World) (n : Nat) : ptOpt w.drew n = ptOpt w n := rfl
/-- A point lies there. -/
def rdP (W : World) (n : Nat) (f g : Nat → UInt8) : Prop := ptOpt W n = some (pc f g)
theorem rdP.lt {W : World} {n : Nat} {f g : Nat → UInt8} (h : rdP W n f g) : n < W.heap.size := by
  obtain ⟨t, hc, _⟩ := ptOpt_some h
  exact (Array.getElem?_eq_some_iff.1 hc).1
theorem rdP.ext {w w' : World} {n : Nat} {f g : Nat → UInt8} (hx : Ext w w') (h : rdP w n f g) : rdP w' n f g := by
  have hn := h.lt
  unfold rdP ptOpt at *
  rwa [ext_heap hx hn]
theorem rdP_opt {W : World} {n : Nat} {f g : Nat → UInt8} (h : rdP W n f g) : ptOpt W n = some (pc f g) := h
theorem rdP.new (w : World) (f g : Nat → UInt8) (T : TypeId) : rdP (w.alloc (.cells (pc f g) T)) w.heap.size f g := ptOpt_at _ _ _ rfl (pc_size f g)
theorem rdP.new_ (w : World) (f g : Nat → UInt8) (T : TypeId) {n : Nat} (h : n = w.heap.size) : rdP (w.alloc (.cells (pc f g) T)) n f g := h ▸ rdP.new w f g T
end Go.Cv
namespace Go.Proofs.Ytndohjgfjbopnaa
open Go.RowKit Go.Cv
@[go_sem] theorem zero_pcells : (#[.int .u8 0, .int .u8 0, .int .u8 0, .int .u8 0, .int .u8 0, .int .u8 0, .int .u8 0, .int .u8 0, .int .u8 0, .int .u8 0, .int .u8 0, .int .u8 0, .int .u8 0, .int .u8 0, .int .u8 0, .int .u8 0, .int .u8 0, .int .u8 0, .int .u8 0, .int .u8 0, .int .u8 0, .int .u8 0, .int .u8 0, .int .u8 0, .int .u8 0, .int .u8 0, .int .u8 0, .int .u8 0, .int .u8 0, .int .u8 0, .int .u8 0, .int .u8 0, .int .u8 0, .int .u8 0, .int .u8 0, .int .u8 0, .int .u8 0, .int .u8 0, .int .u8 0, .int .u8 0, .int .u8 0, .int .u8 0, .int .u8 0, .int .u8 0, .int .u8 0, .int .u8 0, .int .u8 0, .int .u8 0, .int .u8 0, .int .u8 0, .int .u8 0, .int .u8 0, .int .u8 0, .int .u8 0, .int .u8 0, .int .u8 0, .int .u8 0, .int .u8 0, .int .u8 0, .int .u8 0, .int .u8 0, .int .u8 0, .int .u8 0, .int .u8 0] : Array Value) = pc (fun _ => 0) (fun _ => 0) := by rw [pc_zero]; rfl
theorem zip_fold (g : Nat → UInt8) (off : Nat) (z : Array Value) : Array.foldl (fun cs (x : Value × Nat) => cs.setIfInBounds (off + x.2) x.1) z (bcells g).zipIdx 0 32 = (z.toList.take off ++ ((bcells g).toList.take (z.size - off) ++ z.toList.drop (off + 32))).toArray := by
  have h := fill_fold (bcells g).toList 0 off z
  rw [← Array.toList_zipIdx, Array.foldl_toList] at h
  simpa using h
@[go_sem] theorem fold_y (f g k : Nat → UInt8) : Array.foldl (fun cs (x : Value × Nat) => cs.setIfInBounds (32 + x.2) x.1) (pc f g) (bcells k).zipIdx 0 32 = pc f k := by
  rw [zip_fold, pc_size]
  unfold pc pcL
  congr 1
  rw [List.take_append_of_le_length (by simp), List.take_of_length_le (by simp), List.take_of_length_le (by simp), List.drop_of_length_le (by simp)]
  simp
@[go_sem] theorem fold_x (f g k : Nat → UInt8) : Array.foldl (fun cs (x : Value × Nat) => cs.setIfInBounds x.2 x.1) (pc f g) (bcells k).zipIdx 0 32 = pc k g := by
  have h := zip_fold k 0 (pc f g)
  simp only [Nat.zero_add] at h
  rw [h, pc_size]
  unfold pc pcL
  congr 1
  rw [List.take_of_length_le (l := (bcells k).toList) (by simp), List.drop_append_of_le_length (by simp), List.drop_of_length_le (by simp)]
  simp
noncomputable def ld64 (a : Addr) (W : World) : Result (Array Value) := (loadCellsFrom a 0 64 #[]).run Try.prog W
@[go_sem ↓ high] theorem run_ld64 (a : Addr) (W : World) : (loadCellsFrom a 0 64 #[]).run Try.prog W = ld64 a W := rfl
noncomputable def ld64y (n : Nat) (W : World) : Result (Array Value) := ld64 ⟨n, 0, none⟩ W
noncomputable def st64y (n : Nat) (f g : Nat → UInt8) (W : World) : Result Unit := (storeCells ⟨n, 0, none⟩ (pc f g).toList).run Try.prog W
@[go_sem] theorem ld64_eq (W : World) (n : Nat) : ld64 ⟨n, 0, none⟩ W = (ptOpt W n).elim (ld64y n W) (fun c => .ok c W) := by
  cases h : ptOpt W n with
  | none => rfl
  | some c =>
    obtain ⟨t, hc, h64⟩ := ptOpt_some h
    have := run_loadCells_list (P := Try.prog) W ⟨n, 0, none⟩ c.toList (fun j v hv => by
      have hadd : (⟨n, 0, none⟩ : Addr).add j = ⟨n, j, none⟩ := by unfold Addr.add; split <;> simp_all
      rw [hadd, cell_of_row _ _ j c t (0, 0) hc]
      simpa using hv)
    have h2 : (loadCellsFrom ⟨n, 0, none⟩ 0 64 #[]).run Try.prog W = .ok c W := by simpa only [loadCells, h64, Array.length_toList, Array.toArray_toList] using this
    exact h2
@[go_sem ↓ high] theorem st64_eq (W : World) (n : Nat) (f g : Nat → UInt8) : (storeCells ⟨n, 0, none⟩ (pc f g).toList).run Try.prog W = (ptOpt W n).elim (st64y n f g W) (fun _ => .ok () (W.setRow n (pc f g))) := by
  cases h : ptOpt W n with
  | none => rfl
  | some c =>
    obtain ⟨t, hc, h64⟩ := ptOpt_some h
    have := run_storeVar_row (P := Try.prog) W n t 43 c (pc f g) hc (by rw [pc_size]; exact iPt) (by rw [pc_size]; exact h64) (pc_one f g)
    have hi := iPt
    cases hq : Try.prog.info? 43 with
    | none => simp [hq] at hi
    | some i =>
      have hs : i.size = 64 := by simpa [hq] using hi
      have h3 := pc_size f g
      simpa [storeVar, sizeOf, typeInfo, hq, Value.cells, hs, h3] using this
attribute [go_sem] pc_size
theorem run_partB (cs : Array Value) (f : Nat → UInt8) (off : Nat) (w : World) (h : cs.extract off (off + 32) = bcells f) : (part 22 cs off).run Try.prog w = .ok (.agg (bcells f)) w := by
  have hi := i22
  cases hq : Try.prog.info? 22 with
  | none => simp [hq] at hi
  | some i =>
    have hs : i.size = 32 := by simpa [hq] using hi
    simp [part, isAgg, run_underlying u22, sizeOf, typeInfo, hq, hs, h]
theorem pc_x (f g : Nat → UInt8) : (pc f g).extract 0 (0 + 32) = bcells f := by
  rw [pc_eq]
  apply Array.ext'
  simp
  exact List.take_of_length_le (by simp)
theorem pc_y (f g : Nat → UInt8) : (pc f g).extract 32 (32 + 32) = bcells g := by
  rw [pc_eq]
  apply Array.ext'
  simp
  exact List.take_of_length_le (by simp)
theorem uPtF : Try.prog.underlying 43 = some (.struct (Try.prog.fieldsOf 43)) := by kernel_rfl
theorem hPtF : Try.prog.stoodInHeld 43 = false := by kernel_rfl
theorem fPt : ((Try.prog.fieldsOf 43).toList.map fun f => (f.name == "_", f.type, f.offset)) = [(false, 22, 0), (false, 22, 32)] := by kernel_rfl
theorem equalP (f g k l : Nat → UInt8) (w : World) : (Op.equalIn 10000 43 (.agg (pc f g)) (.agg (pc k l))).run Try.prog w = .ok (beqb f k && beqb g l) w := by
  rw [run_equalIn_struct w 9999 _ _ _ uPtF hPtF]
  have h := fPt
  generalize (Try.prog.fieldsOf 43).toList = fs at h
  obtain ⟨a, fs, rfl⟩ : ∃ a t, fs = a :: t := by cases fs with | nil => simp at h | cons a t => exact ⟨a, t, rfl⟩
  obtain ⟨b, fs, rfl⟩ : ∃ a t, fs = a :: t := by cases fs with | nil => simp at h | cons a t => exact ⟨a, t, rfl⟩
  obtain rfl : fs = [] := by cases fs with | nil => rfl | cons a t => simp at h
  simp only [List.map_cons, List.map_nil, List.cons.injEq, Prod.mk.injEq, and_true] at h
  obtain ⟨⟨h1, h2, h3⟩, h4, h5, h6⟩ := h
  have n1 : a.name ≠ "_" := by simpa using h1
  have n2 : b.name ≠ "_" := by simpa using h4
  have e1 : ∀ (f k : Nat → UInt8), (Op.equalIn 9999 22 (.agg (bcells f)) (.agg (bcells k))).run Try.prog w = .ok (beqb f k) w := fun f k => by
    rw [bcells_list, bcells_list]
    exact run_equalIn_bytes w 9997 _ _ 32 u22 u5_ s5_ _ _ (blist_len f) (blist_len k)
  simp only [Op.eqFields, n1, n2, ne_eq, not_false_eq_true, if_true, h2, h3, h5, h6, Sem.run_bind, run_partB _ _ _ _ (pc_x _ _), run_partB _ _ _ _ (pc_y _ _), Result.andThen_ok, e1]
  cases q1 : beqb f k <;> cases q2 : beqb g l <;> simp [q1, q2, e1, run_partB _ _ _ _ (pc_y _ _)]
@[go_sem ↓ high] theorem eql_pc (f g k l : Nat → UInt8) (w : World) : (binOp .eql 43 (.agg (pc f g)) (.agg (pc k l))).run Try.prog w = .ok (.bool (beqb f k && beqb g l)) w := by
  rw [run_eql_struct, equalP]; rfl
@[go_sem ↓ high] theorem neq_pc (f g k l : Nat → UInt8) (w : World) : (binOp .neq 43 (.agg (pc f g)) (.agg (pc k l))).run Try.prog w = .ok (.bool (!(beqb f k && beqb g l))) w := by
  rw [run_neq_struct, equalP]; rfl
theorem small7_any (a : UInt8) (w : World) :
    Calls Try.prog 40 #[.int .u8 (n8 a)] w fun e w' => e = .returned (.agg (bcells (nb a.toNat))) ∧ Ext w w' := by
  go_enter Try.func40, Try.ntmps40
  go_wp2_with (simp only [bcells_set])
  refine bodyPost_ret_by (by simp [results, Try.results40, go_sem]; rfl) rfl ?_
  rw [sm_nb]
  exact ⟨rfl, (ext_alloc _ _).trans (ext_alloc _ _)⟩
end Go.Proofs.Ytndohjgfjbopnaa
end
section
/-
  The head of all statements of layer 7: the shown examples.
-/
set_option linter.unusedSimpArgs false
set_option linter.unusedVariables false
namespace Go.Cv.Grp
theorem neg_on_ {n : Nat} [NeZero n] (d x y : Fin n) (h : y * y - x * x = 1 + d * (x * x) * (y * y)) : y * y - (0 - x) * (0 - x) = 1 + d * ((0 - x) * (0 - x)) * (y * y) := by grind
def Pt.neg {n : Nat} [NeZero n] {C : Crv n} (P : Pt C) : Pt C := ⟨0 - P.x, P.y, neg_on_ C.d P.x P.y P.on⟩
theorem neg_x {n : Nat} [NeZero n] (x y i : Fin n) : (x * y + (0 - x) * y) * i = 0 := by grind
theorem neg_y {n : Nat} [NeZero n] (d x y : Fin n) (h : y * y - x * x = 1 + d * (x * x) * (y * y)) : y * y + x * (0 - x) = (1 - d * (x * (0 - x)) * (y * y)) * 1 := by grind
theorem Pt.add_neg {n : Nat} [NeZero n] {C : Crv n} (P : Pt C) : P.add P.neg = Pt.zero C := by
  refine Pt.ext_ (neg_x P.x P.y _) ?_
  have h1 := C.ay_is P.on P.neg.on
  have h2 := C.den2 P.on P.neg.on
  refine C.cancel h2 ?_
  rw [show (P.add P.neg).y = C.ay P.x P.y P.neg.x P.neg.y from rfl]
  have h3 := neg_y C.d P.x P.y P.on
  have h4 : (1 - C.e P.x P.y P.neg.x P.neg.y) * C.ay P.x P.y P.neg.x P.neg.y = C.ay P.x P.y P.neg.x P.neg.y * (1 - C.e P.x P.y P.neg.x P.neg.y) := by
    generalize C.ay P.x P.y P.neg.x P.neg.y = a
    generalize 1 - C.e P.x P.y P.neg.x P.neg.y = b
    clear h1 h2 h3
    grind
  rw [h4, h1]
  exact h3
end Go.Cv.Grp
namespace Go.Cv
open Go.RowKit Go.Cv.Pr Go.Cv.Grp Go.Cv.Dig
theorem enc_0 : n8 (encF B7.x B7.y 0) = 88 := by decide +kernel
theorem enc_1 : n8 (encF B7.x B7.y 1) = 102 := by decide +kernel
theorem enc_31 : n8 (encF B7.x B7.y 31) = 102 := by decide +kernel
theorem fb_0 : fb 0 = fun _ => 0 := by
  funext i
  show nb 0 i = 0
  simp [nb]
theorem fb_1 : fb 1 = nb 1 := by
  show nb ((1 : F7).val) = nb 1
  rw [show (1 : F7).val = 1 from by decide]
theorem ordV : V (nb ordN) = ordN := V_nb (by decide)
theorem ord_low : beqb (nb (V (nb ordN) % ordN)) (nb ordN) = false := by
  rw [ordV, Nat.mod_self, beqb_nb (by decide) (by decide)]
  decide
theorem mul_10 : (V (nb 2) * V (nb 3) + V (nb 4)) % ordN = 10 := by
  rw [V_nb (by decide), V_nb (by decide), V_nb (by decide)]; decide
theorem base_on7 : C7.on (tf (V (fb B7.x))) (tf (V (fb B7.y))) := by rw [tf_V_fb, tf_V_fb]; exact B7.on
end Go.Cv
namespace Go.Proofs.Ytndohjgfjbopnaa
open Go.RowKit Go.Cv Go.Cv.Pr Go.Cv.Grp Go.Cv.Dig
theorem sm7_0 (w : World) : Calls Try.prog 40 #[.int .u8 0] w fun e w' => e = .returned (.agg (bcells (nb 0))) ∧ Ext w w' := small7_any 0 w
theorem sm7_1 (w : World) : Calls Try.prog 40 #[.int .u8 1] w fun e w' => e = .returned (.agg (bcells (nb 1))) ∧ Ext w w' := small7_any 1 w
theorem sm7_2 (w : World) : Calls Try.prog 40 #[.int .u8 2] w fun e w' => e = .returned (.agg (bcells (nb 2))) ∧ Ext w w' := small7_any 2 w
theorem sm7_3 (w : World) : Calls Try.prog 40 #[.int .u8 3] w fun e w' => e = .returned (.agg (bcells (nb 3))) ∧ Ext w w' := small7_any 3 w
theorem sm7_4 (w : World) : Calls Try.prog 40 #[.int .u8 4] w fun e w' => e = .returned (.agg (bcells (nb 4))) ∧ Ext w w' := small7_any 4 w
theorem sm7_10 (w : World) : Calls Try.prog 40 #[.int .u8 10] w fun e w' => e = .returned (.agg (bcells (nb 10))) ∧ Ext w w' := small7_any 10 w
theorem encB (w : World) : Calls Try.prog 54 #[.agg (pc (fb B7.x) (fb B7.y))] w fun e w' => e = .returned (.tuple #[.agg (bcells (encF B7.x B7.y)), .nilIface]) ∧ Ext w w' := by
  have h := enc_on base_on7 w
  rw [tf_V_fb, tf_V_fb] at h
  exact h
theorem negB (w : World) : Calls Try.prog 45 #[.agg (pc (fb B7.x) (fb B7.y))] w fun e w' => e = .returned (.tuple #[.agg (pc (fb B7.neg.x) (fb B7.neg.y)), .nilIface]) ∧ Ext w w' := by
  have h := neg_on base_on7 w
  rw [tf_V_fb, tf_V_fb] at h
  exact h
theorem addB (w : World) : Calls Try.prog 44 #[.agg (pc (fb B7.x) (fb B7.y)), .agg (pc (fb B7.neg.x) (fb B7.neg.y))] w fun e w' => e = .returned (.tuple #[.agg (pc (fun _ => 0) (nb 1)), .nilIface]) ∧ Ext w w' := by
  have h := add_on (P := B7) (Q := B7.neg) (tf_V_fb _) (tf_V_fb _) (tf_V_fb _) (tf_V_fb _) w
  rw [Pt.add_neg, show (Pt.zero C7).x = 0 from rfl, show (Pt.zero C7).y = 1 from rfl, fb_0, fb_1] at h
  exact h
theorem lowB (w : World) : Calls Try.prog 34 #[.agg (bcells (nb ordN))] w fun e w' => e = .returned (.bool false) ∧ Ext w w' := by
  have h := low_any (nb ordN) w
  rw [ord_low] at h
  exact h
theorem mulB (w : World) : Calls Try.prog 35 #[.agg (bcells (nb 2)), .agg (bcells (nb 3)), .agg (bcells (nb 4))] w fun e w' => e = .returned (.agg (bcells (nb 10))) ∧ Ext w w' := by
  have h := muladd_any (nb 2) (nb 3) (nb 4) w
  rw [mul_10] at h
  exact h
set_option maxRecDepth 20000 in
set_option maxHeartbeats 4000000 in
theorem shown7_any (w : World) :
    Calls Try.prog 28 #[] w fun e w' => e = .returned (.bool true) ∧ Ext w w' := by
  go_enter Try.func28, Try.ntmps28
  go_upto_region 1 with fail
  have HE : Ext w w := Ext.refl w
  go_cut [1] from 9 to 9 (fun p1 wx => ∃ n : Nat, p1 = .pointer (some ⟨n, 0, none⟩) ∧ rdP wx n (fb B7.x) (fb B7.y) ∧ Ext w wx)
  case first =>
    go_wp2_with (go_at_call 30; with_reducible refine (base_any _).mono ?_; rintro e w' ⟨rfl, hx⟩; obtain ⟨l', rfl⟩ := grw_of_ext hx; clear hx)
    go_meet
    case rel => exact ⟨_, rfl, rdP.new_ _ _ _ _ rfl, (grw_ext _ _).trans (ext_alloc _ _)⟩
  case rest =>
  obtain ⟨n1, rfl, h1, hx⟩ := hcut
  replace HE := HE.trans hx
  clear hx
  go_upto_region 2 with fail
  go_cut [2, 3] from 10 to 14 (fun p2 p3 wx => ∃ n : Nat, p2 = .pointer (some ⟨n, 0, none⟩) ∧ p3 = .nilIface ∧ rdB wx n (encF B7.x B7.y) ∧ Ext wc wx)
  case first =>
    have e0 := rdP_opt h1
    have s0 := h1.lt
    go_wp2_with (go_at_call 54; with_reducible refine (encB _).mono ?_; rintro e w' ⟨rfl, hx⟩; obtain ⟨l', rfl⟩ := grw_of_ext hx; clear hx)
    go_meet
    case rel => exact ⟨_, rfl, rfl, rdB.new_ _ _ _ rfl, (grw_ext _ _).trans (ext_alloc _ _)⟩
  case rest =>
  obtain ⟨n2, rfl, rfl, h2, hx⟩ := hcut
  replace h1 := rdP.ext hx h1
  replace HE := HE.trans hx
  clear hx
  go_upto_region 3 with fail
  go_cut [4, 5] from 15 to 19 (fun p4 p5 wx => ∃ n : Nat, p4 = .pointer (some ⟨n, 0, none⟩) ∧ p5 = .nilIface ∧ rdP wx n (fb B7.neg.x) (fb B7.neg.y) ∧ Ext wc wx)
  case first =>
    have e0 := rdP_opt h1
    have s0 := h1.lt
    have e1 := rdB_opt h2
    have s1 := h2.lt
    go_wp2_with (go_at_call 45; with_reducible refine (negB _).mono ?_; rintro e w' ⟨rfl, hx⟩; obtain ⟨l', rfl⟩ := grw_of_ext hx; clear hx)
    go_meet
    case rel => exact ⟨_, rfl, rfl, rdP.new_ _ _ _ _ rfl, (grw_ext _ _).trans (ext_alloc _ _)⟩
  case rest =>
  obtain ⟨n4, rfl, rfl, h4, hx⟩ := hcut
  replace h1 := rdP.ext hx h1
  replace h2 := rdB.ext hx h2
  replace HE := HE.trans hx
  clear hx
  go_upto_region 4 with fail
  go_cut [6, 7] from 20 to 25 (fun p6 p7 wx => ∃ n : Nat, p6 = .pointer (some ⟨n, 0, none⟩) ∧ p7 = .nilIface ∧ rdP wx n (fun _ => 0) (nb 1) ∧ Ext wc wx)
  case first =>
    have e0 := rdP_opt h1
    have s0 := h1.lt
    have e1 := rdP_opt h4
    have s1 := h4.lt
    have e2 := rdB_opt h2
    have s2 := h2.lt
    go_wp2_with (go_at_call 44; with_reducible refine (addB _).mono ?_; rintro e w' ⟨rfl, hx⟩; obtain ⟨l', rfl⟩ := grw_of_ext hx; clear hx)
    go_meet
    case rel => exact ⟨_, rfl, rfl, rdP.new_ _ _ _ _ rfl, (grw_ext _ _).trans (ext_alloc _ _)⟩
  case rest =>
  obtain ⟨n6, rfl, rfl, h6, hx⟩ := hcut
  replace h1 := rdP.ext hx h1
  replace h4 := rdP.ext hx h4
  replace h2 := rdB.ext hx h2
  replace HE := HE.trans hx
  clear hx
  go_upto_region 5 with fail
  go_cut [8] from 26 to 27 (fun p8 wx => ∃ n : Nat, p8 = .pointer (some ⟨n, 0, none⟩) ∧ rdB wx n (nb ordN) ∧ Ext wc wx)
  case first =>
    have e0 := rdP_opt h6
    have s0 := h6.lt
    have e1 := rdB_opt h2
    have s1 := h2.lt
    go_wp2_with (first | (go_at_call 38; with_reducible refine (rorder_any _).mono ?_; rintro e w' ⟨v, rfl, hv, hx⟩) | (go_at_call 17; with_reducible refine (bytes_num _ _ _ hv).mono ?_; rintro e w' ⟨rfl, hx2⟩))
    go_meet
    case rel => exact ⟨_, rfl, rdB.new_ _ _ _ rfl, (hx.trans hx2).trans (ext_alloc _ _)⟩
  case rest =>
  obtain ⟨n8, rfl, h8, hx⟩ := hcut
  replace h6 := rdP.ext hx h6
  replace h2 := rdB.ext hx h2
  replace HE := HE.trans hx
  clear hx
  go_upto_region 6 with fail
  refine wp_region_sure (fun w' => Ext wc w') (by kernel_rfl) (ext_drew _) ?_
  refine wpAnyS_go (i := 0) (some 28) (v := ?_) rfl rfl (by kernel_rfl) (by kernel_rfl) (by kernel_rfl) (fun _ _ _ h => h) (.inl ⟨by rfl, fun w hS => ?_⟩) ?_
  rotate_left
  · (try go_simp)
    refine ⟨?_, hS⟩
    with_reducible rfl
  simp only [Act.put, List.setIfInBounds_toArray, List.set_cons_zero, List.set_cons_succ]
  refine wpAnyS_go (i := 1) (some 29) (v := ?_) rfl rfl (by kernel_rfl) (by kernel_rfl) (by kernel_rfl) (fun _ _ _ h => h) (.inl ⟨by rfl, fun w hS => ?_⟩) ?_
  rotate_left
  · have e1 := rdB_cell (rdB.ext hS h2) (show 0 < 32 by decide)
    have e2 := enc_0
    (try go_simp)
    refine ⟨?_, hS⟩
    with_reducible rfl
  simp only [Act.put, List.setIfInBounds_toArray, List.set_cons_zero, List.set_cons_succ]
  refine wpAnyS_go (i := 2) (some 30) (v := ?_) rfl rfl (by kernel_rfl) (by kernel_rfl) (by kernel_rfl) (fun _ _ _ h => h) (.inl ⟨by rfl, fun w hS => ?_⟩) ?_
  rotate_left
  · (try go_simp)
    refine ⟨?_, hS⟩
    with_reducible rfl
  simp only [Act.put, List.setIfInBounds_toArray, List.set_cons_zero, List.set_cons_succ]
  refine wpAnyS_go (i := 3) (some 31) (v := ?_) rfl rfl (by kernel_rfl) (by kernel_rfl) (by kernel_rfl) (fun _ _ _ h => h) (.inl ⟨by rfl, fun w hS => ?_⟩) ?_
  rotate_left
  · (try go_simp)
    refine ⟨?_, hS⟩
    with_reducible rfl
  simp only [Act.put, List.setIfInBounds_toArray, List.set_cons_zero, List.set_cons_succ]
  refine wpAnyS_go (i := 4) (some 32) (v := ?_) rfl rfl (by kernel_rfl) (by kernel_rfl) (by kernel_rfl) (fun _ _ _ h => h) (.inl ⟨by rfl, fun w hS => ?_⟩) ?_
  rotate_left
  · (try go_simp)
    refine ⟨?_, hS⟩
    with_reducible rfl
  simp only [Act.put, List.setIfInBounds_toArray, List.set_cons_zero, List.set_cons_succ]
  refine wpAnyS_go (i := 5) (some 33) (v := ?_) rfl rfl (by kernel_rfl) (by kernel_rfl) (by kernel_rfl) (fun _ _ _ h => h) (.inl ⟨by rfl, fun w hS => ?_⟩) ?_
  rotate_left
  · have e1 := rdB_cell (rdB.ext hS h2) (show 1 < 32 by decide)
    have e2 := enc_1
    (try go_simp)
    refine ⟨?_, hS⟩
    with_reducible rfl
  simp only [Act.put, List.setIfInBounds_toArray, List.set_cons_zero, List.set_cons_succ]
  refine wpAnyS_go (i := 6) (some 34) (v := ?_) rfl rfl (by kernel_rfl) (by kernel_rfl) (by kernel_rfl) (fun _ _ _ h => h) (.inl ⟨by rfl, fun w hS => ?_⟩) ?_
  rotate_left
  · (try go_simp)
    refine ⟨?_, hS⟩
    with_reducible rfl
  simp only [Act.put, List.setIfInBounds_toArray, List.set_cons_zero, List.set_cons_succ]
  refine wpAnyS_go (i := 7) (some 35) (v := ?_) rfl rfl (by kernel_rfl) (by kernel_rfl) (by kernel_rfl) (fun _ _ _ h => h) (.inl ⟨by rfl, fun w hS => ?_⟩) ?_
  rotate_left
  · (try go_simp)
    refine ⟨?_, hS⟩
    with_reducible rfl
  simp only [Act.put, List.setIfInBounds_toArray, List.set_cons_zero, List.set_cons_succ]
  refine wpAnyS_go (i := 8) (some 36) (v := ?_) rfl rfl (by kernel_rfl) (by kernel_rfl) (by kernel_rfl) (fun _ _ _ h => h) (.inl ⟨by rfl, fun w hS => ?_⟩) ?_
  rotate_left
  · (try go_simp)
    refine ⟨?_, hS⟩
    with_reducible rfl
  simp only [Act.put, List.setIfInBounds_toArray, List.set_cons_zero, List.set_cons_succ]
  refine wpAnyS_go (i := 9) (some 37) (v := ?_) rfl rfl (by kernel_rfl) (by kernel_rfl) (by kernel_rfl) (fun _ _ _ h => h) (.inl ⟨by rfl, fun w hS => ?_⟩) ?_
  rotate_left
  · (try go_simp)
    refine ⟨?_, hS⟩
    with_reducible rfl
  simp only [Act.put, List.setIfInBounds_toArray, List.set_cons_zero, List.set_cons_succ]
  refine wpAnyS_go (i := 10) (some 38) (v := ?_) rfl rfl (by kernel_rfl) (by kernel_rfl) (by kernel_rfl) (fun _ _ _ h => h) (.inl ⟨by rfl, fun w hS => ?_⟩) ?_
  rotate_left
  · have e1 := rdB_cell (rdB.ext hS h2) (show 31 < 32 by decide)
    have e2 := enc_31
    (try go_simp)
    refine ⟨?_, hS⟩
    with_reducible rfl
  simp only [Act.put, List.setIfInBounds_toArray, List.set_cons_zero, List.set_cons_succ]
  refine wpAnyS_go (i := 11) (some 39) (v := ?_) rfl rfl (by kernel_rfl) (by kernel_rfl) (by kernel_rfl) (fun _ _ _ h => h) (.inl ⟨by rfl, fun w hS => ?_⟩) ?_
  rotate_left
  · (try go_simp)
    refine ⟨?_, hS⟩
    with_reducible rfl
  simp only [Act.put, List.setIfInBounds_toArray, List.set_cons_zero, List.set_cons_succ]
  refine wpAnyS_go (i := 12) (some 40) (v := ?_) rfl rfl (by kernel_rfl) (by kernel_rfl) (by kernel_rfl) (fun _ _ _ h => h) (.inl ⟨by rfl, fun w hS => ?_⟩) ?_
  rotate_left
  · (try go_simp)
    refine ⟨?_, hS⟩
    with_reducible rfl
  simp only [Act.put, List.setIfInBounds_toArray, List.set_cons_zero, List.set_cons_succ]
  refine wpAnyS_go (i := 13) (some 41) (v := ?_) rfl rfl (by kernel_rfl) (by kernel_rfl) (by kernel_rfl) (fun _ _ _ h => h) (.inl ⟨by rfl, fun w hS => ?_⟩) ?_
  rotate_left
  · (try go_simp)
    refine ⟨?_, hS⟩
    with_reducible rfl
  simp only [Act.put, List.setIfInBounds_toArray, List.set_cons_zero, List.set_cons_succ]
  refine wpAnyS_go (i := 14) (some 42) (v := ?_) rfl rfl (by kernel_rfl) (by kernel_rfl) (by kernel_rfl) (fun _ _ _ h => h) (.inl ⟨by rfl, fun w hS => ?_⟩) ?_
  rotate_left
  · (try go_simp)
    refine ⟨?_, hS⟩
    with_reducible rfl
  simp only [Act.put, List.setIfInBounds_toArray, List.set_cons_zero, List.set_cons_succ]
  refine wpAnyS_go (i := 15) (some 43) (v := ?_) rfl rfl (by kernel_rfl) (by kernel_rfl) (by kernel_rfl) (fun _ _ _ h => h) (.inl ⟨by rfl, fun w hS => ?_⟩) ?_
  rotate_left
  · (try go_simp)
    refine ⟨?_, hS⟩
    with_reducible rfl
  simp only [Act.put, List.setIfInBounds_toArray, List.set_cons_zero, List.set_cons_succ]
  refine wpAnyS_go (i := 16) (some 44) (v := ?_) rfl rfl (by kernel_rfl) (by kernel_rfl) (by kernel_rfl) (fun _ _ _ h => h) (.inl ⟨by rfl, fun w hS => ?_⟩) ?_
  rotate_left
  · (try go_simp)
    refine ⟨?_, hS⟩
    with_reducible rfl
  simp only [Act.put, List.setIfInBounds_toArray, List.set_cons_zero, List.set_cons_succ]
  refine wpAnyS_go (i := 17) (some 45) (v := ?_) rfl rfl (by kernel_rfl) (by kernel_rfl) (by kernel_rfl) (fun _ _ _ h => h) (.inl ⟨by rfl, fun w hS => ?_⟩) ?_
  rotate_left
  · (try go_simp)
    refine ⟨?_, hS⟩
    with_reducible rfl
  simp only [Act.put, List.setIfInBounds_toArray, List.set_cons_zero, List.set_cons_succ]
  refine wpAnyS_go (i := 18) (some 46) (v := ?_) rfl rfl (by kernel_rfl) (by kernel_rfl) (by kernel_rfl) (fun _ _ _ h => h) (.inl ⟨by rfl, fun w hS => ?_⟩) ?_
  rotate_left
  · (try go_simp)
    refine ⟨?_, hS⟩
    with_reducible rfl
  simp only [Act.put, List.setIfInBounds_toArray, List.set_cons_zero, List.set_cons_succ]
  refine wpAnyS_go (i := 19) (some 47) (v := ?_) rfl rfl (by kernel_rfl) (by kernel_rfl) (by kernel_rfl) (fun _ _ _ h => h) (.inl ⟨by rfl, fun w hS => ?_⟩) ?_
  rotate_left
  · (try go_simp)
    refine ⟨?_, hS⟩
    with_reducible rfl
  simp only [Act.put, List.setIfInBounds_toArray, List.set_cons_zero, List.set_cons_succ]
  refine wpAnyS_go (i := 20) (some 48) (v := ?_) rfl rfl (by kernel_rfl) (by kernel_rfl) (by kernel_rfl) (fun _ _ _ h => h) (.inl ⟨by rfl, fun w hS => ?_⟩) ?_
  rotate_left
  · (try go_simp)
    refine ⟨?_, hS⟩
    with_reducible rfl
  simp only [Act.put, List.setIfInBounds_toArray, List.set_cons_zero, List.set_cons_succ]
  refine wpAnyS_go (i := 21) (some 49) (v := ?_) rfl rfl (by kernel_rfl) (by kernel_rfl) (by kernel_rfl) (fun _ _ _ h => h) (.inl ⟨by rfl, fun w hS => ?_⟩) ?_
  rotate_left
  · (try go_simp)
    refine ⟨?_, hS⟩
    with_reducible rfl
  simp only [Act.put, List.setIfInBounds_toArray, List.set_cons_zero, List.set_cons_succ]
  refine wpAnyS_go (i := 22) (some 50) (v := ?_) rfl rfl (by kernel_rfl) (by kernel_rfl) (by kernel_rfl) (fun _ _ _ h => h) (.inl ⟨by rfl, fun w hS => ?_⟩) ?_
  rotate_left
  · (try go_simp)
    refine ⟨?_, hS⟩
    with_reducible rfl
  simp only [Act.put, List.setIfInBounds_toArray, List.set_cons_zero, List.set_cons_succ]
  refine wpAnyS_go (i := 23) (some 51) (v := ?_) rfl rfl (by kernel_rfl) (by kernel_rfl) (by kernel_rfl) (fun _ _ _ h => h) (.inl ⟨by rfl, fun w hS => ?_⟩) ?_
  rotate_left
  · (try go_simp)
    refine ⟨?_, hS⟩
    with_reducible rfl
  simp only [Act.put, List.setIfInBounds_toArray, List.set_cons_zero, List.set_cons_succ]
  refine wpAnyS_go (i := 24) (some 52) (v := ?_) rfl rfl (by kernel_rfl) (by kernel_rfl) (by kernel_rfl) (fun _ _ _ h => h) (.inl ⟨by rfl, fun w hS => ?_⟩) ?_
  rotate_left
  · (try go_simp)
    refine ⟨?_, hS⟩
    with_reducible rfl
  simp only [Act.put, List.setIfInBounds_toArray, List.set_cons_zero, List.set_cons_succ]
  refine wpAnyS_go (i := 25) (some 53) (v := ?_) rfl rfl (by kernel_rfl) (by kernel_rfl) (by kernel_rfl) (fun _ _ _ h => h) (.inl ⟨by rfl, fun w hS => ?_⟩) ?_
  rotate_left
  · (try go_simp)
    refine ⟨?_, hS⟩
    with_reducible rfl
  simp only [Act.put, List.setIfInBounds_toArray, List.set_cons_zero, List.set_cons_succ]
  refine wpAnyS_go (i := 26) (some 54) (v := ?_) rfl rfl (by kernel_rfl) (by kernel_rfl) (by kernel_rfl) (fun _ _ _ h => h) (.inl ⟨by rfl, fun w hS => ?_⟩) ?_
  rotate_left
  · have e1 := rdP_opt (rdP.ext hS h6)
    (try go_simp)
    refine ⟨?_, hS⟩
    with_reducible rfl
  simp only [Act.put, List.setIfInBounds_toArray, List.set_cons_zero, List.set_cons_succ]
  refine wpAnyS_go (i := 27) (some 55) (v := ?_) rfl rfl (by kernel_rfl) (by kernel_rfl) (by kernel_rfl) (fun _ _ _ h => h) (.inl ⟨by rfl, fun w hS => ?_⟩) ?_
  rotate_left
  · go_simp
    change Calls _ _ _ _ _
    refine Calls.mono (sm7_1 _) ?_
    rintro e w' ⟨rfl, hx⟩
    refine ⟨?_, hS.trans hx⟩
    with_reducible rfl
  simp only [Act.put, List.setIfInBounds_toArray, List.set_cons_zero, List.set_cons_succ]
  refine wpAnyS_go (i := 28) (some 56) (v := ?_) rfl rfl (by kernel_rfl) (by kernel_rfl) (by kernel_rfl) (fun _ _ _ h => h) (.inl ⟨by rfl, fun w hS => ?_⟩) ?_
  rotate_left
  · (try go_simp)
    refine ⟨?_, hS⟩
    with_reducible rfl
  simp only [Act.put, List.setIfInBounds_toArray, List.set_cons_zero, List.set_cons_succ]
  refine wpAnyS_go (i := 29) (some 57) (v := ?_) rfl rfl (by kernel_rfl) (by kernel_rfl) (by kernel_rfl) (fun _ _ _ h => h) (.inl ⟨by rfl, fun w hS => ?_⟩) ?_
  rotate_left
  · (try go_simp)
    refine ⟨?_, hS⟩
    with_reducible rfl
  simp only [Act.put, List.setIfInBounds_toArray, List.set_cons_zero, List.set_cons_succ]
  refine wpAnyS_go (i := 30) (some 58) (v := ?_) rfl rfl (by kernel_rfl) (by kernel_rfl) (by kernel_rfl) (fun _ _ _ h => h) (.inl ⟨by rfl, fun w hS => ?_⟩) ?_
  rotate_left
  · (try go_simp)
    refine ⟨?_, hS⟩
    with_reducible rfl
  simp only [Act.put, List.setIfInBounds_toArray, List.set_cons_zero, List.set_cons_succ]
  refine wpAnyS_go (i := 31) (some 59) (v := ?_) rfl rfl (by kernel_rfl) (by kernel_rfl) (by kernel_rfl) (fun _ _ _ h => h) (.inl ⟨by rfl, fun w hS => ?_⟩) ?_
  rotate_left
  · (try go_simp)
    refine ⟨?_, hS⟩
    with_reducible rfl
  simp only [Act.put, List.setIfInBounds_toArray, List.set_cons_zero, List.set_cons_succ]
  refine wpAnyS_go (i := 32) (some 60) (v := ?_) rfl rfl (by kernel_rfl) (by kernel_rfl) (by kernel_rfl) (fun _ _ _ h => h) (.inl ⟨by rfl, fun w hS => ?_⟩) ?_
  rotate_left
  · have e1 := rdB_opt (rdB.ext hS h8)
    go_simp
    refine ⟨?_, hS⟩
    with_reducible rfl
  simp only [Act.put, List.setIfInBounds_toArray, List.set_cons_zero, List.set_cons_succ]
  refine wpAnyS_go (i := 33) (some 61) (v := ?_) rfl rfl (by kernel_rfl) (by kernel_rfl) (by kernel_rfl) (fun _ _ _ h => h) (.inl ⟨by rfl, fun w hS => ?_⟩) ?_
  rotate_left
  · go_simp
    change Calls _ _ _ _ _
    refine Calls.mono (lowB _) ?_
    rintro e w' ⟨rfl, hx⟩
    refine ⟨?_, hS.trans hx⟩
    with_reducible rfl
  simp only [Act.put, List.setIfInBounds_toArray, List.set_cons_zero, List.set_cons_succ]
  refine wpAnyS_go (i := 34) (some 62) (v := ?_) rfl rfl (by kernel_rfl) (by kernel_rfl) (by kernel_rfl) (fun _ _ _ h => h) (.inl ⟨by rfl, fun w hS => ?_⟩) ?_
  rotate_left
  · (try go_simp)
    refine ⟨?_, hS⟩
    with_reducible rfl
  simp only [Act.put, List.setIfInBounds_toArray, List.set_cons_zero, List.set_cons_succ]
  refine wpAnyS_go (i := 35) (some 63) (v := ?_) rfl rfl (by kernel_rfl) (by kernel_rfl) (by kernel_rfl) (fun _ _ _ h => h) (.inl ⟨by rfl, fun w hS => ?_⟩) ?_
  rotate_left
  · (try go_simp)
    refine ⟨?_, hS⟩
    with_reducible rfl
  simp only [Act.put, List.setIfInBounds_toArray, List.set_cons_zero, List.set_cons_succ]
  refine wpAnyS_go (i := 36) (some 64) (v := ?_) rfl rfl (by kernel_rfl) (by kernel_rfl) (by kernel_rfl) (fun _ _ _ h => h) (.inl ⟨by rfl, fun w hS => ?_⟩) ?_
  rotate_left
  · (try go_simp)
    refine ⟨?_, hS⟩
    with_reducible rfl
  simp only [Act.put, List.setIfInBounds_toArray, List.set_cons_zero, List.set_cons_succ]
  refine wpAnyS_go (i := 37) (some 65) (v := ?_) rfl rfl (by kernel_rfl) (by kernel_rfl) (by kernel_rfl) (fun _ _ _ h => h) (.inl ⟨by rfl, fun w hS => ?_⟩) ?_
  rotate_left
  · go_simp
    change Calls _ _ _ _ _
    refine Calls.mono (sm7_2 _) ?_
    rintro e w' ⟨rfl, hx⟩
    refine ⟨?_, hS.trans hx⟩
    with_reducible rfl
  simp only [Act.put, List.setIfInBounds_toArray, List.set_cons_zero, List.set_cons_succ]
  refine wpAnyS_go (i := 38) (some 66) (v := ?_) rfl rfl (by kernel_rfl) (by kernel_rfl) (by kernel_rfl) (fun _ _ _ h => h) (.inl ⟨by rfl, fun w hS => ?_⟩) ?_
  rotate_left
  · go_simp
    change Calls _ _ _ _ _
    refine Calls.mono (sm7_3 _) ?_
    rintro e w' ⟨rfl, hx⟩
    refine ⟨?_, hS.trans hx⟩
    with_reducible rfl
  simp only [Act.put, List.setIfInBounds_toArray, List.set_cons_zero, List.set_cons_succ]
  refine wpAnyS_go (i := 39) (some 67) (v := ?_) rfl rfl (by kernel_rfl) (by kernel_rfl) (by kernel_rfl) (fun _ _ _ h => h) (.inl ⟨by rfl, fun w hS => ?_⟩) ?_
  rotate_left
  · go_simp
    change Calls _ _ _ _ _
    refine Calls.mono (sm7_4 _) ?_
    rintro e w' ⟨rfl, hx⟩
    refine ⟨?_, hS.trans hx⟩
    with_reducible rfl
  simp only [Act.put, List.setIfInBounds_toArray, List.set_cons_zero, List.set_cons_succ]
  refine wpAnyS_go (i := 40) (some 68) (v := ?_) rfl rfl (by kernel_rfl) (by kernel_rfl) (by kernel_rfl) (fun _ _ _ h => h) (.inl ⟨by rfl, fun w hS => ?_⟩) ?_
  rotate_left
  · go_simp
    change Calls _ _ _ _ _
    refine Calls.mono (mulB _) ?_
    rintro e w' ⟨rfl, hx⟩
    refine ⟨?_, hS.trans hx⟩
    with_reducible rfl
  simp only [Act.put, List.setIfInBounds_toArray, List.set_cons_zero, List.set_cons_succ]
  refine wpAnyS_go (i := 41) (some 69) (v := ?_) rfl rfl (by kernel_rfl) (by kernel_rfl) (by kernel_rfl) (fun _ _ _ h => h) (.inl ⟨by rfl, fun w hS => ?_⟩) ?_
  rotate_left
  · go_simp
    change Calls _ _ _ _ _
    refine Calls.mono (sm7_10 _) ?_
    rintro e w' ⟨rfl, hx⟩
    refine ⟨?_, hS.trans hx⟩
    with_reducible rfl
  simp only [Act.put, List.setIfInBounds_toArray, List.set_cons_zero, List.set_cons_succ]
  refine wpAnyS_go (i := 42) (some 70) (v := ?_) rfl rfl (by kernel_rfl) (by kernel_rfl) (by kernel_rfl) (fun _ _ _ h => h) (.inl ⟨by rfl, fun w hS => ?_⟩) ?_
  rotate_left
  · (try go_simp)
    refine ⟨?_, hS⟩
    with_reducible rfl
  simp only [Act.put, List.setIfInBounds_toArray, List.set_cons_zero, List.set_cons_succ]
  refine wpAnyS_go (i := 43) (some 71) (v := ?_) rfl rfl (by kernel_rfl) (by kernel_rfl) (by kernel_rfl) (fun _ _ _ h => h) (.inl ⟨by rfl, fun w hS => ?_⟩) ?_
  rotate_left
  · (try go_simp)
    refine ⟨?_, hS⟩
    with_reducible rfl
  simp only [Act.put, List.setIfInBounds_toArray, List.set_cons_zero, List.set_cons_succ]
  refine wpAnyS_go (i := 44) (some 0) (v := ?_) rfl rfl (by kernel_rfl) (by kernel_rfl) (by kernel_rfl) (fun _ _ _ h => h) (.inl ⟨by rfl, fun w hS => ?_⟩) ?_
  rotate_left
  · (try go_simp)
    refine ⟨?_, hS⟩
    with_reducible rfl
  simp only [Act.put, List.setIfInBounds_toArray, List.set_cons_zero, List.set_cons_succ]
  refine wpAnyS_done (by kernel_rfl) fun w hS => ?_
  go_wp2
  go_ret
  exact ⟨rfl, HE.trans hS⟩
end Go.Proofs.Ytndohjgfjbopnaa
end
