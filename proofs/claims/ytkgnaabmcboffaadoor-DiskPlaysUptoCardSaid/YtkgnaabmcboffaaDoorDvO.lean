/-
  A script that came in, as a list of requests.
-/
import Derived.Test.YtkgnaabmcboffaaDoorArgs
import Derived.Test.YtkgnaabmcboffaaDoorDvW
set_option linter.unusedSimpArgs false
set_option linter.unusedVariables false
namespace Go.Proofs.YtkgnaabmcboffaaDoor
open Go.ChangeShapes Go.WideShapes Go.ChangeAt Go.RowKit Go.Deep Go.Cv Go.Cv.Dk
section
variable {H : Type} {enc : TypeId × Value → H} {w : World} {base : Nat} {held : Bool}
theorem bulk_one (d : DataW H) : 1 ≤ Rows.uptoBulk d := by
  cases d with
  | lit l => cases l <;> simp [Rows.uptoBulk]
  | _ => simp [Rows.uptoBulk]
theorem bulk_len : ∀ l : List (DataW H), l.length ≤ Rows.uptoBulkAll l
  | [] => by simp [Rows.uptoBulkAll]
  | x :: r => by have := bulk_one x; have := bulk_len r; simp only [Rows.uptoBulkAll, List.length_cons]; omega
theorem bulk_mem {d : DataW H} : ∀ {l : List (DataW H)}, d ∈ l → Rows.uptoBulk d ≤ Rows.uptoBulkAll l
  | [], h => by cases h
  | x :: r, h => by
    simp only [Rows.uptoBulkAll]
    rcases List.mem_cons.1 h with rfl | h
    · omega
    · have := bulk_mem h; omega
theorem argB_cs {t e : TypeId} {P : Program} {fuel : Nat} {cs : List Value} {x : DataW H × List MemPlace} (ht : P.underlying t = some (.slice e)) (he : P.underlying e = some (.int .u8)) (hc : P.cellsOf e = 1)
    (h : DataW.trod enc P w base (fun _ => true) held fuel t cs = some x) :
    ∃ A n cap l, cs = [.slice A n cap] ∧ ArgB w A n cap l ∧ n ≤ Rows.uptoBulk x.1 := by
  have hh := h
  have key : ∀ A n cap, cs = [.slice A n cap] → ∃ A n cap l, cs = [.slice A n cap] ∧ ArgB w A n cap l ∧ n ≤ Rows.uptoBulk x.1 := fun A n cap e => by
    subst e
    obtain ⟨l, hB, hd⟩ := argB_open (A := A) (n := n) (cap := cap) ht he hc hh
    refine ⟨A, n, cap, l, rfl, hB, ?_⟩
    rcases hd with ⟨_, h0⟩ | ⟨es, sp, hx, hl, _⟩
    · have := hB.le; omega
    · rw [hx]; have := bulk_len es; simp only [Rows.uptoBulk]; omega
  rcases open_ints ht he hc h with ⟨hcs, _⟩ | ⟨a, l, c, zs, hcs, _⟩
  · exact key _ _ _ hcs
  · exact key _ _ _ hcs
theorem wf_i64 {n : Int} (h : (Lit.int .i64 n).wf = true) : -9223372036854775808 ≤ n ∧ n ≤ 9223372036854775807 := by
  simp [Lit.wf, IntKind.min, IntKind.max, IntKind.signed, IntKind.bits] at h
  omega
theorem bulk_str (s : ByteArray) : s.size ≤ Rows.uptoBulk (DataW.lit (H := H) (.string s.data.toList)) := by
  have e : s.data.toList.length = s.size := by rw [Array.length_toList]; rfl
  simp only [Rows.uptoBulk]; omega
set_option maxRecDepth 20000 in
/-- A request that came in. -/
theorem op_open {fuel : Nat} {cs : List Value} {x : DataW H × List MemPlace} (h : DataW.trod enc Tryd.prog w base (fun _ => true) held fuel 45 cs = some x) :
    ∃ o : OpV, cs = o.cells ∧ (-9223372036854775808 ≤ o.k ∧ o.k ≤ 9223372036854775807) ∧ (-9223372036854775808 ≤ o.n ∧ o.n ≤ 9223372036854775807) ∧ o.b.length = o.m ∧ Rd w o.A (o.b.map bv) ∧ o.x.size + o.y.size + o.m ≤ Rows.uptoBulk x.1 := by
  have c3 : Tryd.prog.cellsOf 3 = 1 := by kernel_rfl
  have c9 : Tryd.prog.cellsOf 9 = 1 := by kernel_rfl
  have cb : Tryd.prog.cellsOf 22 = 1 := by kernel_rfl
  have c8 : Tryd.prog.cellsOf 5 = 1 := by kernel_rfl
  have c5 : Tryd.prog.cellsOf 45 = 5 := by kernel_rfl
  obtain ⟨xs, n, rfl, rfl, hl, hxl, hf⟩ := DataW.trod_struct Tryd.underlying45 h
  rw [c5] at hl
  match xs, hxl, cs, hl with
  | [y0, y1, y2, y3, y4], _, [v0, v1, v2, v3, v4], _ =>
    have g0 := hf 0 _ rfl
    have g1 := hf 1 _ rfl
    have g2 := hf 2 _ rfl
    have g3 := hf 3 _ rfl
    have g4 := hf 4 _ rfl
    simp [c3, c9, cb, List.drop_zero, List.drop_succ_cons, List.take_succ_cons, List.take_zero, List.getElem?_cons_zero, List.getElem?_cons_succ] at g0 g1 g2 g3 g4
    obtain ⟨k, e0, q0, b0⟩ := DataW.trod_int Tryd.underlying3 g0
    obtain ⟨s1, e1, q1, b1⟩ := DataW.trod_string Tryd.underlying9 g1
    obtain ⟨s2, e2, q2, b2⟩ := DataW.trod_string Tryd.underlying9 g2
    obtain ⟨z, e3, q3, b3⟩ := DataW.trod_int Tryd.underlying3 g3
    obtain ⟨A, m, cap, l, e4, hB, hb⟩ := argB_cs Tryd.underlying22 Tryd.underlying5 c8 g4
    simp only [List.cons.injEq, and_true] at e0 e1 e2 e3 e4
    subst e0 e1 e2 e3 e4
    refine ⟨⟨k, s1, s2, z, A, m, cap, l⟩, rfl, wf_i64 b0, wf_i64 b3, hB.len, hB.rd, ?_⟩
    show s1.size + s2.size + m ≤ _
    have h1 := bulk_str (H := H) s1
    have h2 := bulk_str (H := H) s2
    have q1' : y1.1 = .lit (.string s1.data.toList) := by rw [q1]
    have q2' : y2.1 = .lit (.string s2.data.toList) := by rw [q2]
    rw [← q1'] at h1
    rw [← q2'] at h2
    simp only [List.map_cons, List.map_nil, Rows.uptoBulk, Rows.uptoBulkAll]
    omega
theorem rd_fam {n sz : Nat} {a : Addr} {f : Nat → List Value} (hf : ∀ i, i < n → (f i).length = sz) (h : ∀ i, i < n → ∀ j v, (f i)[j]? = some v → w.cell? (a.add (i * sz + j)) = some v) : Rd w (some a) ((List.range n).flatMap f) := by
  induction n with
  | zero => intro k v hv; simp at hv
  | succ n ih =>
    have ih' := ih (fun i hi => hf i (by omega)) fun i hi => h i (by omega)
    have hlen : ((List.range n).flatMap f).length = n * sz := by
      clear ih ih' h
      induction n with
      | zero => simp
      | succ n ih => rw [List.range_succ, List.flatMap_append, List.length_append, ih (fun i hi => hf i (by omega))]; simp [hf n (by omega), Nat.succ_mul]
    intro k v hv
    rw [List.range_succ, List.flatMap_append] at hv
    rcases Nat.lt_or_ge k (n * sz) with hk | hk
    · rw [List.getElem?_append_left (by omega)] at hv
      exact ih' k v hv
    · rw [List.getElem?_append_right (by omega), hlen] at hv
      refine ⟨a, rfl, ?_⟩
      have := h n (by omega) (k - n * sz) v (by simpa using hv)
      rwa [Nat.add_sub_cancel' hk] at this
set_option maxRecDepth 20000 in
/-- A script that came in. -/
theorem ops_open {fuel : Nat} {A : Option Addr} {n cap : Nat} {x : DataW H × List MemPlace} (h : DataW.trod enc Tryd.prog w base (fun _ => true) held fuel 38 (Value.slice A n cap).cells.toList = some x) :
    ∃ O : List OpV, O.length = n ∧ Rd w A (O.flatMap OpV.cells) ∧ n ≤ Rows.uptoBulk x.1 ∧ (Rows.uptoBulk x.1 ≤ 1048576 → ∀ o ∈ O, o.At w) := by
  have c5 : Tryd.prog.cellsOf 45 = 5 := by kernel_rfl
  rcases open_slice Tryd.underlying38 h with ⟨hcs, hx⟩ | ⟨a, len, cap', m, fl, D, Pl, hcs, hb, hl, hm, hmm, hx, hel⟩
  · simp [Value.cells] at hcs
    obtain ⟨rfl, rfl, rfl⟩ := hcs
    exact ⟨[], rfl, Rd.nil_, Nat.zero_le _, fun _ o ho => by cases ho⟩
  · simp [Value.cells] at hcs
    obtain ⟨rfl, rfl, rfl⟩ := hcs
    simp only [if_true] at hmm
    have hsb : Rows.uptoBulkAll ((List.range n).map D) ≤ Rows.uptoBulk x.1 := by rw [hx]; simp only [Rows.uptoBulk]; omega
    have each : ∀ i, i < n → ∃ o : OpV, w.cells? base (a.add (i * 5)) 5 = some o.cells ∧ (-9223372036854775808 ≤ o.k ∧ o.k ≤ 9223372036854775807) ∧ (-9223372036854775808 ≤ o.n ∧ o.n ≤ 9223372036854775807) ∧ o.b.length = o.m ∧ Rd w o.A (o.b.map bv) ∧ o.x.size + o.y.size + o.m ≤ Rows.uptoBulk (D i) := fun i hi => by
      obtain ⟨cs', h1, h2⟩ := hel i (by omega)
      rw [c5] at h1
      obtain ⟨o, rfl, h3⟩ := op_open h2
      exact ⟨o, h1, h3⟩
    have : Inhabited OpV := ⟨⟨0, ⟨#[]⟩, ⟨#[]⟩, 0, none, 0, 0, []⟩⟩
    obtain ⟨o, ho⟩ := choose_lt each
    refine ⟨(List.range n).map o, by simp, ?_, ?_, fun hbk y hy => ?_⟩
    · rw [List.flatMap_map]
      refine rd_fam (sz := 5) (fun i _ => rfl) fun i hi j v hv => ?_
      obtain ⟨_, hlen, hcell⟩ := World.cells?_some (ho i hi).1
      have hj : j < 5 := by
        rcases Nat.lt_or_ge j 5 with h | h
        · exact h
        · rw [List.getElem?_eq_none (by simpa [OpV.cells] using h)] at hv; cases hv
      have := hcell j hj
      rw [Deep.add_add] at this
      rw [this, hv]
    · have := bulk_len ((List.range n).map D)
      simp only [List.length_map, List.length_range] at this
      omega
    · obtain ⟨i, hi, rfl⟩ := List.mem_map.1 hy
      have hi := List.mem_range.1 hi
      obtain ⟨_, h2, h3, h4, h5, h6⟩ := ho i hi
      have h7 : Rows.uptoBulk (D i) ≤ Rows.uptoBulkAll ((List.range n).map D) := bulk_mem (List.mem_map.2 ⟨i, List.mem_range.2 hi, rfl⟩)
      exact ⟨h2, by omega, by omega, h3, h4, by omega, h5⟩
end
end Go.Proofs.YtkgnaabmcboffaaDoor
