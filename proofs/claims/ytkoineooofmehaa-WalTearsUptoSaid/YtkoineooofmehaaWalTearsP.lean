/-
  'WalTears' returns true for every input of bulk at most 1048576, and each argument reads behind the call as it read before. Condition: the bound on the bulk, as the given row states it.
-/
import Derived.Test.YtkoineooofmehaaArgs
import Derived.Test.YtkoineooofmehaaWalTearsW
set_option linter.unusedSimpArgs false
set_option linter.unusedVariables false
namespace Go.Proofs.Ytkoineooofmehaa.walTears
open Go.ChangeShapes Go.WideShapes Go.ChangeAt Go.RowKit Go.Cv
open Go.ChangeMaps (open_string shut_string)

theorem own : ownKnob Try.prog.godebug = none := by kernel_rfl
theorem laidOut : laidOutB Try.prog = true := by kernel_rfl

theorem one_le_ {H : Type} (d : DataW H) : 1 ≤ Rows.uptoBulk d := by
  cases d with
  | lit l => cases l <;> simp [Rows.uptoBulk]
  | _ => simp [Rows.uptoBulk]
theorem length_le_ {H : Type} : ∀ l : List (DataW H), l.length ≤ Rows.uptoBulkAll l
  | [] => by simp [Rows.uptoBulkAll]
  | x :: r => by have := one_le_ x; have := length_le_ r; simp only [Rows.uptoBulkAll, List.length_cons]; omega
theorem slice_le_ {H : Type} (es sp : List (DataW H)) : es.length + sp.length + 1 ≤ Rows.uptoBulk (.slice es sp) := by
  have h1 := length_le_ es
  have h2 := length_le_ sp
  simp only [Rows.uptoBulk]
  omega

theorem rows_le_ {H : Type} : ∀ (es : List (DataW H)) (R : List (List UInt8)), es.length = R.length → (∀ k, k < R.length → (es[k]? = some .nil ∧ (R.getD k []).length = 0) ∨ ∃ fs sp, es[k]? = some (.slice fs sp) ∧ fs.length = (R.getD k []).length) →
    R.length + (R.map List.length).sum ≤ Rows.uptoBulkAll es
  | [], [], _, _ => by simp [Rows.uptoBulkAll]
  | [], r :: R, h, _ => by simp at h
  | e :: es, [], h, _ => by simp at h
  | e :: es, r :: R, hl, h => by
    have ih := rows_le_ es R (by simpa using hl) fun k hk => by simpa using h (k + 1) (by simpa using hk)
    have h0 : r.length + 1 ≤ Rows.uptoBulk e := by
      rcases h 0 (by simp) with ⟨_, h2⟩ | ⟨fs, sp, h1, h2⟩
      · have := one_le_ e
        simp at h2
        rw [h2]
        simpa using this
      · simp at h1 h2
        have := slice_le_ fs sp
        rw [h1]
        omega
    simp only [Rows.uptoBulkAll, List.length_cons, List.map_cons, List.sum_cons]
    omega

theorem contract (H : Type) (enc : TypeId × Value → H) (W : World) (base : Nat) (args : Array Value) (ds gs : List (DataW H)) (before : List MemPlace)
    (hval : ∀ (j : Nat) t v, Try.f5.params[j]? = some t → args[j]? = some v → Value.okWide Try.prog W .any base t v)
    (hW : DataW.Whole enc Try.prog Try.f5.params.toList Rows.walTearsSpec.vars false W args.toList ds gs before) (hk : Rows.uptoSmall H (ds ++ gs) = true) :
    Calls Try.prog 5 args W fun e W' => ∃ v, e = .returned v ∧ Rows.walTearsSpec.post enc Try.prog Try.f5 false true false false W args v W' := by
  have hW' := hW
  obtain ⟨p, q, hA0, hV, rfl, hfz, hnd⟩ := hW
  have hA : DataW.TrodAll enc Try.prog W 0 (fun _ => true) true Try.f5.params.toList args.toList ds p := hA0
  rw [Try.params5] at hA hval
  obtain ⟨v0, vs0, d0, ds0, p0, q0, hargs, rfl, rfl, h0, r0⟩ := trodAll_cons hA
  obtain ⟨v1, vs1, d1, ds1, p1, q1, rfl, rfl, rfl, h1, r1⟩ := trodAll_cons r0
  obtain ⟨rfl, rfl, rfl⟩ := trodAll_nil r1
  obtain rfl : args = #[v0, v1] := by cases args; simp_all
  obtain ⟨rfl, rfl⟩ := trodVars_none hV
  have k0 := h0
  have lt0 : ∀ x ∈ p0, x.block < W.heap.size := by obtain ⟨m, hm⟩ := k0; exact DataW.trod_lt m _ _ _ hm
  obtain ⟨a0, len0, cap0, rfl⟩ := okWide_slice Try.underlying34 (hval 0 34 v0 rfl rfl)
  obtain ⟨R0, B0, D0⟩ : ∃ R, ArgBB W a0 len0 cap0 R ∧ ((d0 = .nil ∧ len0 = 0) ∨ ∃ es sp, d0 = .slice es sp ∧ es.length = len0 ∧ ∀ k (h : k < len0), (es[k]? = some .nil ∧ (R.getD k []).length = 0) ∨ ∃ fs sp', es[k]? = some (.slice fs sp') ∧ fs.length = (R.getD k []).length) := by
    obtain ⟨fuel, hf⟩ := h0
    exact argBB_open Try.underlying34 Try.underlying22 Try.underlying5 (by kernel_rfl) (by kernel_rfl) hf
  have k1 := h1
  have lt1 : ∀ x ∈ p1, x.block < W.heap.size := by obtain ⟨m, hm⟩ := k1; exact DataW.trod_lt m _ _ _ hm
  obtain ⟨x1, rfl, rfl, rfl, wx1⟩ := open_int Try.underlying3 (hval 1 3 v1 rfl rfl) h1
  have bnd : (len0 + (R0.map List.length).sum) ≤ 1048576 := by
    have h : Rows.uptoBulkAll _ ≤ 1048576 := of_decide_eq_true hk
    simp only [List.append_nil, Rows.uptoBulkAll] at h
    have g0 : len0 + (R0.map List.length).sum ≤ Rows.uptoBulk d0 := by
      rcases D0 with ⟨_, hc0⟩ | ⟨es, sp, hd, he, hr⟩
      · have h0 : R0 = [] := List.eq_nil_of_length_eq_zero (by rw [B0.len, hc0])
        rw [h0]; simp; omega
      · have := rows_le_ es R0 (by rw [he, B0.len]) (fun k hk => hr k (by rw [← B0.len]; exact hk))
        rw [B0.len] at this
        rw [hd]
        simp only [Rows.uptoBulk]
        omega
    omega
  refine (walTears_walk a0 len0 cap0 R0 x1 W B0 wx1 bnd).mono fun e W' ⟨he, bel⟩ => ?_
  subst he
  exact ⟨_, rfl, _, _, _, [], _, [], hW', trodAll_mk1 (shut_bool Try.underlying4 _), (trodAll_cons_mk (Below.trod laidOut (by kernel_rfl) (of_decide_eq_true (by kernel_rfl)) k0 bel lt0) (trodAll_cons_mk (Below.trod laidOut (by kernel_rfl) (of_decide_eq_true (by kernel_rfl)) k1 bel lt1) trodAll_mk0)), rfl, bel.frame _, fun h => by cases h⟩

set_option maxRecDepth 100000 in
theorem lifted (os : Os) (started : os.Started) (H : Type) (enc : TypeId × Value → H) (F : Stop.Interp) :
    ReturnsInHanded {} Try.checked os 5 .any ((Rows.OpenSpec.upto Rows.walTearsSpec).pre6 enc Try.prog Try.f5 Rows.walTearsUptoRow.domain false) (((Rows.OpenSpec.upto Rows.walTearsSpec).at F).post enc Try.prog Try.f5 false true false false) := by
  refine returnsInHanded_of_cond (C := Try.checked) (s := Rows.OpenSpec.upto Rows.walTearsSpec) (k := Rows.uptoSmall) rfl own started (by kernel_rfl) Try.func5
    (OpenSpec.witness (enc := enc) (C := Try.checked) (s := Rows.OpenSpec.upto Rows.walTearsSpec) (k := Rows.uptoSmall) rfl false ⟨#[], #[.slice none 0 0, .int .i64 0], []⟩ 8 (by kernel_rfl) (by kernel_rfl) (by kernel_rfl)
      (x := ([.nil, .lit (.int .i64 0)], [], [])) (by kernel_rfl) rfl (by kernel_rfl)) ?_
  intro W base args ds gs before hval hW _ hk _
  exact contract H enc W base args ds gs before hval hW hk

/-- The statement. -/
theorem proved : Rows.WalTearsUptoSaid :=
  OpenClaim.holds_of_cond 5 Try.f5 rfl rfl rfl rfl rfl rfl rfl ⟨rfl, rfl, rfl, rfl, rfl⟩ rfl rfl rfl rfl rfl (by kernel_rfl) Try.func5 (by kernel_rfl)
    (of_decide_eq_true (by kernel_rfl)) (by unfold Func.isWrapper; first | (rw [if_pos (by decide +kernel)]; kernel_rfl) | (rw [if_neg (by decide +kernel)]; exact ⟨rfl, rfl⟩))
    (fun os started H enc _ F => lifted os started H enc F)
#print axioms proved
end Go.Proofs.Ytkoineooofmehaa.walTears
