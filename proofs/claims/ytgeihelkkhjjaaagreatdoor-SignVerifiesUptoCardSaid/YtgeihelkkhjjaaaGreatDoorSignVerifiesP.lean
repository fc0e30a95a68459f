/-
  'SignVerifies' returns true for every input of bulk at most 1048576, and each argument reads behind the call as it read before; the card ties what its row lists to the program's text. Condition: the bound on the bulk, as the given row states it; the listed variables hold what the program's text lays.
-/
import Derived.Test.YtgeihelkkhjjaaaGreatDoorCards
import Derived.Test.YtgeihelkkhjjaaaGreatDoorTie
import Derived.Test.YtgeihelkkhjjaaaGreatDoorKArgs


import Derived.Test.YtgeihelkkhjjaaaGreatDoorKSgY
import Derived.WalkKit
import Derived.ProofKit
import Derived.OpenShut
import Derived.Deep.DeepHandedRow
import Derived.Deep.DeepWitnessRowRef
import Derived.Lib.LaidIn
import Derived.SizedLaws
import Derived.Lib.LaidU8
set_option linter.unusedSimpArgs false
set_option linter.unusedVariables false
set_option maxRecDepth 100000
namespace Go.Proofs.YtgeihelkkhjjaaaGreatDoor.signVerifies
open Go.Shelf
open Go.ChangeShapes Go.WideShapes Go.ChangeAt Go.RowKit Go.Lib Go.Cv
open Go.ChangeMaps (open_string shut_string)

theorem own : ownKnob Tryz.prog.godebug = none := by kernel_rfl
theorem laidOut : laidOutB Tryz.prog = true := by kernel_rfl
theorem rd_of_reads {W : World} {n : String} {k : IntKind} {zs : List Int} {g : Nat} {t e : TypeId} {m : Nat} {α : Type} {f : α → Value} {xs : List α} (hg : Tryz.prog.globalNamed n = some g) (hy : (Tryz.prog.globals[g]?).map (·.type) = some t)
    (ht : Tryz.prog.underlying t = some (.array m e)) (he : Tryz.prog.underlying e = some (.int k)) (hce : Tryz.prog.cellsOf e = 1) (hct : Tryz.prog.cellsOf t = m) (hx : (zs.map fun z => Value.int k z) = xs.map f)
    (h : VarReads Tryz.prog W n (Lib.tabData k zs)) : Cv.Rd W (some ⟨g, 0, none⟩) (xs.map f) := by
  obtain ⟨g', t', cs, fuel, p, h1, h2, hvar, hd⟩ := h
  obtain rfl := Option.some.inj (hg.symm.trans h1)
  obtain rfl := Option.some.inj (hy.symm.trans h2)
  have hcs := Lib.cells_of_tab ht he hce hct hd
  rw [hx] at hcs
  intro c v hc
  refine ⟨_, rfl, ?_⟩
  have := World.var?_cell hg hvar c
  rw [← Array.getElem?_toList, hcs, hc] at this
  by_cases h0 : c = 0
  · subst h0; simpa [Addr.add] using this
  · simpa [Addr.add, h0] using this
theorem long_is : (Rows.laid_covey_hash_long : DataW Unit) = Lib.tabData .u64 (Cv.Hash.K64.map Cv.n64) := by kernel_rfl
theorem longB_is : (Rows.laid_covey_hash_longBegin : DataW Unit) = Lib.tabData .u64 (Cv.Hash.B64.l.map Cv.n64) := by kernel_rfl
theorem tabs {W : World} (hL : laidMetH Tryz.prog Rows.signVerifiesUptoRow.laid W) : Cv.Hash.Tab64 W := by
  have h2 : VarReads Tryz.prog W "covey/hash.long" Rows.laid_covey_hash_long := Lib.laidMet.reads hL (.head _)
  have h4 : VarReads Tryz.prog W "covey/hash.longBegin" Rows.laid_covey_hash_longBegin := Lib.laidMet.reads hL (.tail _ (.head _))
  rw [long_is] at h2
  rw [longB_is] at h4
  refine ⟨?_, ?_⟩
  · exact rd_of_reads (g := 1) (t := 97) (e := 73) (m := 80) (by kernel_rfl) (by kernel_rfl) (by kernel_rfl) (by kernel_rfl) (by kernel_rfl) (by kernel_rfl) (by rw [List.map_map]; rfl) h2
  · exact rd_of_reads (g := 0) (t := 95) (e := 73) (m := 8) (by kernel_rfl) (by kernel_rfl) (by kernel_rfl) (by kernel_rfl) (by kernel_rfl) (by kernel_rfl) (by rw [List.map_map]; rfl) h4
/-- The settled world, the two tables as their initialisers lay them. -/
noncomputable def laidWorld (os : Os) : World :=
  let w0 := World.holding Tryz.prog os ⟨#[], #[], []⟩
  let put (h : Array Obj) (g : Nat) (cs : Array Value) : Array Obj := h.modify g fun
    | .cells _ t frozen => .cells cs t frozen
    | o => o
  let h0 := put w0.heap 0 (Cv.Hash.B64.l.map Cv.Hash.wv64).toArray
  let h1 := put h0 1 (Cv.Hash.K64.map Cv.Hash.wv64).toArray
  { w0 with heap := h1 }
theorem laid_met (os : Os) (args : Array Value) : laidMetH Tryz.prog Rows.signVerifiesUptoRow.laid ((laidWorld os).forCall (fun _ _ => 0) ⟨#[], args, []⟩).memory :=
  (LaidIn.of_run (l := [("covey/hash.long", Rows.laid_covey_hash_long), ("covey/hash.longBegin", Rows.laid_covey_hash_longBegin)]) [1, 0] 8 (by kernel_rfl) (by kernel_rfl) (by kernel_rfl) (by kernel_rfl)).met

theorem one_le_ {H : Type} (d : DataW H) : 1 ≤ Rows.uptoBulk d := by
  cases d with
  | lit l => cases l <;> simp [Rows.uptoBulk]
  | _ => simp [Rows.uptoBulk]
theorem length_le_ {H : Type} : ∀ l : List (DataW H), l.length ≤ Rows.uptoBulkAll l
  | [] => by simp [Rows.uptoBulkAll]
  | x :: r => by have := one_le_ x; have := length_le_ r; simp only [Rows.uptoBulkAll, List.length_cons]; omega
theorem slice_le_ {H : Type} (es sp : List (DataW H)) : es.length + sp.length + 1 ≤ Rows.uptoBulk (.slice es sp) := by
  have h1 := length_le_ es
  have h2 := length_le_ sp
  simp only [Rows.uptoBulk]
  omega

theorem contract (H : Type) (enc : TypeId × Value → H) (W : World) (base : Nat) (args : Array Value) (ds gs : List (DataW H)) (before : List MemPlace)
    (hval : ∀ (j : Nat) t v, Tryz.f4.params[j]? = some t → args[j]? = some v → Value.okWide Tryz.prog W .any base t v)
    (hW : DataW.Whole enc Tryz.prog Tryz.f4.params.toList Rows.signVerifiesSpec.vars false W args.toList ds gs before) (hk : Rows.uptoSmall H (ds ++ gs) = true) (hL : laidMetH Tryz.prog Rows.signVerifiesUptoRow.laid W) :
    Calls Tryz.prog 4 args W fun e W' => ∃ v, e = .returned v ∧ Rows.signVerifiesSpec.post enc Tryz.prog Tryz.f4 false true false false W args v W' := by
  have hW' := hW
  obtain ⟨p, q, hA0, hV, rfl, hfz, hnd⟩ := hW
  have hA : DataW.TrodAll enc Tryz.prog W 0 (fun _ => true) true Tryz.f4.params.toList args.toList ds p := hA0
  rw [Tryz.params4] at hA hval
  obtain ⟨v0, vs0, d0, ds0, p0, q0, hargs, rfl, rfl, h0, r0⟩ := trodAll_cons hA
  obtain ⟨v1, vs1, d1, ds1, p1, q1, rfl, rfl, rfl, h1, r1⟩ := trodAll_cons r0
  obtain ⟨v2, vs2, d2, ds2, p2, q2, rfl, rfl, rfl, h2, r2⟩ := trodAll_cons r1
  obtain ⟨rfl, rfl, rfl⟩ := trodAll_nil r2
  obtain rfl : args = #[v0, v1, v2] := by cases args; simp_all
  obtain ⟨rfl, rfl⟩ := trodVars_none hV
  have k0 := h0
  have lt0 : ∀ x ∈ p0, x.block < W.heap.size := by obtain ⟨m, hm⟩ := k0; exact DataW.trod_lt m _ _ _ hm
  obtain ⟨a0, len0, cap0, rfl⟩ := okWide_slice Tryz.underlying23 (hval 0 23 v0 rfl rfl)
  obtain ⟨l0, B0, D0⟩ : ∃ l, ArgB W a0 len0 cap0 l ∧ ((d0 = .nil ∧ cap0 = 0) ∨ ∃ es sp, d0 = .slice es sp ∧ es.length = len0 ∧ es.length + sp.length = cap0) := by
    obtain ⟨fuel, hf⟩ := h0
    exact argB_open Tryz.underlying23 Tryz.underlying5 (by kernel_rfl) hf
  have k1 := h1
  have lt1 : ∀ x ∈ p1, x.block < W.heap.size := by obtain ⟨m, hm⟩ := k1; exact DataW.trod_lt m _ _ _ hm
  obtain ⟨a1, len1, cap1, rfl⟩ := okWide_slice Tryz.underlying23 (hval 1 23 v1 rfl rfl)
  obtain ⟨l1, B1, D1⟩ : ∃ l, ArgB W a1 len1 cap1 l ∧ ((d1 = .nil ∧ cap1 = 0) ∨ ∃ es sp, d1 = .slice es sp ∧ es.length = len1 ∧ es.length + sp.length = cap1) := by
    obtain ⟨fuel, hf⟩ := h1
    exact argB_open Tryz.underlying23 Tryz.underlying5 (by kernel_rfl) hf
  have k2 := h2
  have lt2 : ∀ x ∈ p2, x.block < W.heap.size := by obtain ⟨m, hm⟩ := k2; exact DataW.trod_lt m _ _ _ hm
  obtain ⟨a2, len2, cap2, rfl⟩ := okWide_slice Tryz.underlying23 (hval 2 23 v2 rfl rfl)
  obtain ⟨l2, B2, D2⟩ : ∃ l, ArgB W a2 len2 cap2 l ∧ ((d2 = .nil ∧ cap2 = 0) ∨ ∃ es sp, d2 = .slice es sp ∧ es.length = len2 ∧ es.length + sp.length = cap2) := by
    obtain ⟨fuel, hf⟩ := h2
    exact argB_open Tryz.underlying23 Tryz.underlying5 (by kernel_rfl) hf
  have bnd : cap0 + cap1 + cap2 ≤ 1048576 := by
    have h : Rows.uptoBulkAll _ ≤ 1048576 := of_decide_eq_true hk
    simp only [List.append_nil, Rows.uptoBulkAll] at h
    have g0 : cap0 ≤ Rows.uptoBulk d0 := by
      rcases D0 with ⟨_, hc0⟩ | ⟨es, sp, hd, _, hc0⟩
      · omega
      · have := slice_le_ es sp; rw [hd]; omega
    have g1 : cap1 ≤ Rows.uptoBulk d1 := by
      rcases D1 with ⟨_, hc0⟩ | ⟨es, sp, hd, _, hc0⟩
      · omega
      · have := slice_le_ es sp; rw [hd]; omega
    have g2 : cap2 ≤ Rows.uptoBulk d2 := by
      rcases D2 with ⟨_, hc0⟩ | ⟨es, sp, hd, _, hc0⟩
      · omega
      · have := slice_le_ es sp; rw [hd]; omega
    omega
  refine (verifies_w a0 len0 cap0 l0 a1 len1 cap1 l1 a2 len2 cap2 l2 W (tabs hL) B0 B1 B2 bnd).mono fun e W' ⟨he, bel⟩ => ?_
  subst he
  exact ⟨_, rfl, _, _, _, [], _, [], hW', trodAll_mk1 (shut_bool Tryz.underlying4 _), (trodAll_cons_mk (Below.trod laidOut (by kernel_rfl) (of_decide_eq_true (by kernel_rfl)) k0 bel lt0) (trodAll_cons_mk (Below.trod laidOut (by kernel_rfl) (of_decide_eq_true (by kernel_rfl)) k1 bel lt1) (trodAll_cons_mk (Below.trod laidOut (by kernel_rfl) (of_decide_eq_true (by kernel_rfl)) k2 bel lt2) trodAll_mk0))), rfl, bel.frame _, fun h => by cases h⟩

theorem witness_row (os : Os) {H : Type} (enc : TypeId × Value → H) :
    (Rows.OpenSpec.upto Rows.signVerifiesSpec).preRow enc Tryz.prog Tryz.f4 Rows.signVerifiesUptoRow.domain false Rows.signVerifiesUptoRow.laid ((laidWorld os).forCall (fun _ _ => 0) ⟨#[], #[.slice none 0 0, .slice none 0 0, .slice none 0 0], []⟩).memory #[.slice none 0 0, .slice none 0 0, .slice none 0 0] := by
  have hw : (DataW.whole enc Tryz.prog ((laidWorld os).forCall (fun _ _ => 0) ⟨#[], #[.slice none 0 0, .slice none 0 0, .slice none 0 0], []⟩).memory Tryz.f4.params.toList (Rows.OpenSpec.upto Rows.signVerifiesSpec).vars false (Array.toList #[.slice none 0 0, .slice none 0 0, .slice none 0 0]) 8).map (fun x => (x.1, x.2.1)) =
      some ([.nil, .nil, .nil], []) := by kernel_rfl
  obtain ⟨⟨x1, x2, x3⟩, hx, hx1⟩ := Option.map_eq_some_iff.1 hw
  simp only [Prod.mk.injEq] at hx1
  obtain ⟨rfl, rfl⟩ := hx1
  exact OpenSpec.preRow_of_cond 8 hx (by kernel_rfl) (fun k hk => by cases hk; kernel_rfl) (by kernel_rfl) (laid_met os _)

theorem lifted (os : Os) (started : os.Started) (H : Type) (enc : TypeId × Value → H) (F : Stop.Interp) :
    ReturnsInHanded {} Tryz.checked os 4 .any ((Rows.OpenSpec.upto Rows.signVerifiesSpec).preRow enc Tryz.prog Tryz.f4 Rows.signVerifiesUptoRow.domain false Rows.signVerifiesUptoRow.laid) (((Rows.OpenSpec.upto Rows.signVerifiesSpec).at F).post enc Tryz.prog Tryz.f4 false true false false) := by
  refine returnsInHanded_of_row (C := Tryz.checked) (s := (Rows.OpenSpec.upto Rows.signVerifiesSpec)) own started (by kernel_rfl) Tryz.func4
    (witness_row_atRef (enc := enc) (C := Tryz.checked) false (laidWorld os) #[.slice none 0 0, .slice none 0 0, .slice none 0 0] rfl (by kernel_rfl) (by kernel_rfl) (by kernel_rfl) (witness_row os enc)) ?_
  intro W base args ds gs before hval hW _ hcond _ hL _ _
  exact contract H enc W base args ds gs before hval hW (hcond _ rfl) hL

theorem said : Rows.SignVerifiesUptoSaid :=
  OpenClaim.holds_of_cond 4 Tryz.f4 rfl rfl rfl rfl rfl rfl rfl ⟨rfl, rfl, rfl, rfl, rfl⟩ rfl rfl rfl rfl rfl (by kernel_rfl) Tryz.func4 (by kernel_rfl)
    (of_decide_eq_true (by kernel_rfl)) (by unfold Func.isWrapper; first | (rw [if_pos (by decide +kernel)]; kernel_rfl) | (rw [if_neg (by decide +kernel)]; exact ⟨rfl, rfl⟩))
    (fun os started H enc _ F => by rw [OpenClaim.pre_eq_preRow]; exact lifted os started H enc F)

theorem plain (f : FuncId) (fn : Func) (hf : Tryz.pinned.checked.prog.funcNamed "covey/coveylaw08.SignVerifies" = some f) (hfn : Tryz.pinned.checked.prog.funcs[f]? = some fn) :
    true = Tryz.pinned.checked.prog.looks [] ∧ ∀ (j : Nat) t, fn.params[j]? = some t → Tryz.pinned.checked.prog.wantsStandIn t = false := by
  obtain rfl : f = 4 := Option.some.inj ((show Tryz.prog.funcNamed "covey/coveylaw08.SignVerifies" = some 4 by kernel_rfl).symm.trans hf) |>.symm
  obtain rfl : fn = Tryz.f4 := (Option.some.inj (Tryz.func4.symm.trans hfn)).symm
  refine ⟨by kernel_rfl, fun j t ht => ?_⟩
  rw [Tryz.params4] at ht
  have ht := Array.mem_of_getElem? ht
  simp only [List.mem_toArray, List.mem_cons, List.not_mem_nil, or_false] at ht
  rcases ht with rfl | rfl | rfl
  all_goals first | exact (show Tryz.prog.wantsStandIn 23 = false by kernel_rfl)

/-- The statement: the card. -/
theorem proved : Rows.SignVerifiesUptoCardSaid :=
  Claim7.holds_tied_plain_at .later [] _ _ _ _ said (fun _ h => by cases h) (by kernel_rfl) (fun _ h => by cases h) signVerifiesUpto_row_tie rfl ⟨rfl, rfl⟩ (by kernel_rfl) rfl plain (by kernel_rfl)
#print axioms proved
end Go.Proofs.YtgeihelkkhjjaaaGreatDoor.signVerifies
