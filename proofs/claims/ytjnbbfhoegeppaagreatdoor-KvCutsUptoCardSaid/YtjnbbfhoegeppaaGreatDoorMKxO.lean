/-
  A script of batches that came in.
-/
import Derived.Test.YtjnbbfhoegeppaaGreatDoorMArgs
import Derived.Test.YtjnbbfhoegeppaaGreatDoorMKwN
import Derived.Test.YtjnbbfhoegeppaaGreatDoorMKwO
set_option linter.unusedSimpArgs false
set_option linter.unusedVariables false
namespace Go.Proofs.YtjnbbfhoegeppaaGreatDoor
open Go.ChangeShapes Go.WideShapes Go.ChangeAt Go.RowKit Go.Deep Go.Cv Go.Cv.Dk Go.Cv.Kv
/-- A request. -/
structure OV where
  k : Int
  A : Option Addr
  c : Nat
  W : List WV
def OV.cells (o : OV) : List Value := [.int .i64 o.k, .slice o.A o.W.length o.c]
def OV.P (o : OV) : List PW := o.W.map WV.pw
def OV.sz (o : OV) : Nat := 18 + (o.P.flatMap encW).length
structure OV.At (w : World) (o : OV) : Prop where
  k : -9223372036854775808 ≤ o.k ∧ o.k ≤ 9223372036854775807
  W : WsAt w o.A o.W
  n : o.W.length ≤ 1048576
  e : (o.P.flatMap encW).length ≤ 1572864
theorem OV.At.ext {w w' : World} {o : OV} (h : o.At w) (hx : Ext w w') : o.At w' := ⟨h.k, h.W.ext hx, h.n, h.e⟩
def totO (O : List OV) : Nat := (O.map OV.sz).sum
/-- A script. -/
structure Script (w : World) (A : Option Addr) (n : Nat) (O : List OV) : Prop where
  len : O.length = n
  rd : Rd w A (O.flatMap OV.cells)
  at_ : ∀ o ∈ O, o.At w
  tot : totO O ≤ 6291456
  n : n ≤ 1048576
theorem totO_take {O : List OV} {k : Nat} (h : k < O.length) : totO (O.take (k + 1)) = totO (O.take k) + O[k].sz := by
  unfold totO
  rw [List.take_succ_eq_append_getElem h, List.map_append, List.sum_append]
  simp
theorem totO_le (O : List OV) (k : Nat) : totO (O.take k) ≤ totO O := by
  have h : totO O = totO (O.take k) + totO (O.drop k) := by
    unfold totO
    rw [← List.sum_append, ← List.map_append, List.take_append_drop]
  omega
theorem Script.ext {w w' : World} {A : Option Addr} {n : Nat} {O : List OV} (h : Script w A n O) (hx : Ext w w') : Script w' A n O := ⟨h.len, h.rd.ext hx, fun o ho => (h.at_ o ho).ext hx, h.tot, h.n⟩
theorem ocells_len (L : List OV) : (L.flatMap OV.cells).length = L.length * 2 := by
  induction L with
  | nil => rfl
  | cons e r ih => rw [List.flatMap_cons, List.length_append, ih, List.length_cons]; simp [OV.cells]; omega
theorem ocells_at {L : List OV} {k j : Nat} (h : k < L.length) (hj : j < 2) : (L.flatMap OV.cells)[k * 2 + j]? = (L[k].cells)[j]? := by
  obtain ⟨l1, x, l2, hL, hl, _, _⟩ := split_at h
  have e : L[k] = x := by
    have h1 : L[k]? = some x := by rw [hL, List.getElem?_append_right (by omega), hl, Nat.sub_self]; rfl
    rw [List.getElem?_eq_getElem h] at h1
    injection h1
  rw [e, hL, List.flatMap_append, List.flatMap_cons, List.getElem?_append_right (by rw [ocells_len, hl]; omega), ocells_len, hl, Nat.add_sub_cancel_left, List.getElem?_append_left (by simpa [OV.cells] using hj)]
theorem Script.at {w : World} {A : Option Addr} {n : Nat} {O : List OV} (h : Script w A n O) {k : Nat} (hk : k < O.length) : ∃ ad, A = some ad ∧ w.cell? (ad.add (k * 2)) = some (.int .i64 O[k].k) ∧
    w.cell? ⟨(ad.add (k * 2)).block, (ad.add (k * 2)).off + 1, none⟩ = some (.slice O[k].A O[k].W.length O[k].c) := by
  obtain ⟨ad, rfl, h0⟩ := h.rd (k * 2 + 0) (.int .i64 O[k].k) (by rw [ocells_at hk (by omega)]; rfl)
  refine ⟨ad, rfl, h0, ?_⟩
  obtain ⟨ad', e, h1⟩ := h.rd (k * 2 + 1) (.slice O[k].A O[k].W.length O[k].c) (by rw [ocells_at hk (by omega)]; rfl)
  injection e with e
  subst e
  rw [← Cv.add_add] at h1
  exact h1
section
variable {H : Type} {enc : TypeId × Value → H} {w : World} {base : Nat} {held : Bool}
theorem kbulk_one (d : DataW H) : 1 ≤ Rows.uptoBulk d := by
  cases d with
  | lit l => cases l <;> simp [Rows.uptoBulk]
  | _ => simp [Rows.uptoBulk]
theorem kbulk_len : ∀ l : List (DataW H), l.length ≤ Rows.uptoBulkAll l
  | [] => by simp [Rows.uptoBulkAll]
  | x :: r => by have := kbulk_one x; have := kbulk_len r; simp only [Rows.uptoBulkAll, List.length_cons]; omega
theorem kargB_cs {t e : TypeId} {P : Program} {fuel : Nat} {cs : List Value} {x : DataW H × List MemPlace} (ht : P.underlying t = some (.slice e)) (he : P.underlying e = some (.int .u8)) (hc : P.cellsOf e = 1)
    (h : DataW.trod enc P w base (fun _ => true) held fuel t cs = some x) :
    ∃ A n cap l, cs = [.slice A n cap] ∧ ArgB w A n cap l ∧ n + 1 ≤ Rows.uptoBulk x.1 ∧ (A = none → cap = 0) := by
  have hh := h
  have key : ∀ A n cap, cs = [.slice A n cap] → (A = none → cap = 0) → ∃ A n cap l, cs = [.slice A n cap] ∧ ArgB w A n cap l ∧ n + 1 ≤ Rows.uptoBulk x.1 ∧ (A = none → cap = 0) := fun A n cap e h0 => by
    subst e
    obtain ⟨l, hB, hd⟩ := argB_open (A := A) (n := n) (cap := cap) ht he hc hh
    refine ⟨A, n, cap, l, rfl, hB, ?_, h0⟩
    rcases hd with ⟨_, h0⟩ | ⟨es, sp, hx, hl, _⟩
    · have := hB.le; have := kbulk_one x.1; omega
    · rw [hx]; have := kbulk_len es; simp only [Rows.uptoBulk]; omega
  rcases open_ints ht he hc h with ⟨hcs, _⟩ | ⟨a, l, c, zs, hcs, _⟩
  · exact key _ _ _ hcs (fun _ => rfl)
  · exact key _ _ _ hcs (fun e => by cases e)
theorem kwf_i64 {n : Int} (h : (Lit.int .i64 n).wf = true) : -9223372036854775808 ≤ n ∧ n ≤ 9223372036854775807 := by
  simp [Lit.wf, IntKind.min, IntKind.max, IntKind.signed, IntKind.bits] at h
  omega
theorem kbulk_str (s : ByteArray) : s.size + 1 ≤ Rows.uptoBulk (DataW.lit (H := H) (.string s.data.toList)) := by
  have e : s.data.toList.length = s.size := by rw [Array.length_toList]; rfl
  simp only [Rows.uptoBulk]; omega
set_option maxRecDepth 20000 in
/-- A write that came in. -/
theorem write_open {fuel : Nat} {cs : List Value} {x : DataW H × List MemPlace} (h : DataW.trod enc Tryz.prog w base (fun _ => true) held fuel 45 cs = some x) :
    ∃ o : WV, cs = o.cells ∧ Rd w o.A (o.v.map bv) ∧ (o.A = none → o.c = 0) ∧ o.k.size + o.v.length + 4 ≤ Rows.uptoBulk x.1 := by
  have c4 : Tryz.prog.cellsOf 4 = 1 := by kernel_rfl
  have c9 : Tryz.prog.cellsOf 9 = 1 := by kernel_rfl
  have cb : Tryz.prog.cellsOf 43 = 1 := by kernel_rfl
  have c8 : Tryz.prog.cellsOf 5 = 1 := by kernel_rfl
  have c5 : Tryz.prog.cellsOf 45 = 3 := by kernel_rfl
  obtain ⟨xs, n, rfl, rfl, hl, hxl, hf⟩ := DataW.trod_struct Tryz.underlying45 h
  rw [c5] at hl
  match xs, hxl, cs, hl with
  | [y0, y1, y2], _, [v0, v1, v2], _ =>
    have g0 := hf 0 _ rfl
    have g1 := hf 1 _ rfl
    have g2 := hf 2 _ rfl
    simp [c4, c9, cb, List.drop_zero, List.drop_succ_cons, List.take_succ_cons, List.take_zero, List.getElem?_cons_zero, List.getElem?_cons_succ] at g0 g1 g2
    obtain ⟨s1, e1, q1, b1⟩ := DataW.trod_string Tryz.underlying9 g0
    obtain ⟨A, m, cap, l, e4, hB, hb, hn⟩ := kargB_cs Tryz.underlying43 Tryz.underlying5 c8 g1
    obtain ⟨d, e3, q3⟩ := DataW.trod_bool Tryz.underlying4 g2
    simp only [List.cons.injEq, and_true] at e1 e3 e4
    subst e1 e3 e4
    refine ⟨⟨s1, A, cap, l, d⟩, ?_, hB.rd, hn, ?_⟩
    · show _ = [Value.string s1, .slice A l.length cap, .bool d]
      rw [hB.len]
    · show s1.size + l.length + 4 ≤ _
      have h1 := kbulk_str (H := H) s1
      have q1' : y0.1 = .lit (.string s1.data.toList) := by rw [q1]
      rw [← q1'] at h1
      have h3 := kbulk_one y2.1
      rw [hB.len]
      simp only [List.map_cons, List.map_nil, Rows.uptoBulk, Rows.uptoBulkAll]
      omega
theorem krd_fam {n sz : Nat} {a : Addr} {f : Nat → List Value} (hf : ∀ i, i < n → (f i).length = sz) (h : ∀ i, i < n → ∀ j v, (f i)[j]? = some v → w.cell? (a.add (i * sz + j)) = some v) : Rd w (some a) ((List.range n).flatMap f) := by
  induction n with
  | zero => intro k v hv; simp at hv
  | succ n ih =>
    have ih' := ih (fun i hi => hf i (by omega)) fun i hi => h i (by omega)
    have hlen : ((List.range n).flatMap f).length = n * sz := by
      clear ih ih' h
      induction n with
      | zero => simp
      | succ n ih => rw [List.range_succ, List.flatMap_append, List.length_append, ih (fun i hi => hf i (by omega))]; simp [hf n (by omega), Nat.succ_mul]
    intro k v hv
    rw [List.range_succ, List.flatMap_append] at hv
    rcases Nat.lt_or_ge k (n * sz) with hk | hk
    · rw [List.getElem?_append_left (by omega)] at hv
      exact ih' k v hv
    · rw [List.getElem?_append_right (by omega), hlen] at hv
      refine ⟨a, rfl, ?_⟩
      have := h n (by omega) (k - n * sz) v (by simpa using hv)
      rwa [Nat.add_sub_cancel' hk] at this
theorem bulk_sum (D : Nat → DataW H) (f : Nat → Nat) (q : Nat) (h : ∀ i, f i ≤ q * Rows.uptoBulk (D i)) : ∀ n, ((List.range n).map f).sum ≤ q * Rows.uptoBulkAll ((List.range n).map D) := fun n => by
  have e : ∀ l : List Nat, (l.map f).sum ≤ q * Rows.uptoBulkAll (l.map D) := fun l => by
    induction l with
    | nil => simp [Rows.uptoBulkAll]
    | cons a l ih =>
      simp only [List.map_cons, List.sum_cons, Rows.uptoBulkAll, Nat.mul_add]
      have := h a
      omega
  exact e _
theorem wv_bulk (o : WV) {b : Nat} (h : o.k.size + o.v.length + 4 ≤ b) : 2 * (encW o.pw).length ≤ 3 * b := by
  rw [encW_len]
  have e : o.pw.k.length = o.k.size := by show o.k.data.toList.length = _; rw [Array.length_toList]; rfl
  have e2 : o.pw.v.length = o.v.length := rfl
  rw [e, e2]
  split <;> omega
theorem enc_sum (f : Nat → WV) (n : Nat) : ((((List.range n).map f).map WV.pw).flatMap encW).length = ((List.range n).map fun i => (encW (f i).pw).length).sum := by
  rw [List.length_flatMap, List.map_map, List.map_map]
  rfl
set_option maxRecDepth 20000 in
/-- Writes that came in. -/
theorem writes_open {fuel : Nat} {cs : List Value} {x : DataW H × List MemPlace} (h : DataW.trod enc Tryz.prog w base (fun _ => true) held fuel 32 cs = some x) :
    ∃ A c, ∃ W : List WV, cs = [.slice A W.length c] ∧ W.length ≤ Rows.uptoBulk x.1 ∧ 2 * ((W.map WV.pw).flatMap encW).length + 3 ≤ 3 * Rows.uptoBulk x.1 ∧ (Rows.uptoBulk x.1 ≤ 1048576 → WsAt w A W) := by
  have c5 : Tryz.prog.cellsOf 45 = 3 := by kernel_rfl
  rcases open_slice Tryz.underlying32 h with ⟨hcs, hx⟩ | ⟨a, n, cap', m, fl, D, Pl, hcs, hb, hl, hm, hmm, hx, hel⟩
  · have h1 := kbulk_one x.1
    exact ⟨none, 0, [], hcs, Nat.zero_le _, by show 2 * 0 + 3 ≤ _; omega, fun _ => ⟨Rd.nil_, by simp⟩⟩
  · simp only [if_true] at hmm
    have hsb : Rows.uptoBulkAll ((List.range n).map D) + 1 ≤ Rows.uptoBulk x.1 := by rw [hx]; simp only [Rows.uptoBulk]; omega
    have each : ∀ i, i < n → ∃ o : WV, w.cells? base (a.add (i * 3)) 3 = some o.cells ∧ Rd w o.A (o.v.map bv) ∧ (o.A = none → o.c = 0) ∧ o.k.size + o.v.length + 4 ≤ Rows.uptoBulk (D i) := fun i hi => by
      obtain ⟨cs', h1, h2⟩ := hel i (by omega)
      rw [c5] at h1
      obtain ⟨o, rfl, h3⟩ := write_open h2
      exact ⟨o, h1, h3⟩
    have : Inhabited WV := ⟨⟨⟨#[]⟩, none, 0, [], false⟩⟩
    obtain ⟨o, ho⟩ := choose_lt each
    refine ⟨some a, cap', (List.range n).map o, by rw [hcs]; simp, ?_, ?_, fun hbk => ⟨?_, fun y hy => ?_⟩⟩
    · have := kbulk_len ((List.range n).map D)
      simp only [List.length_map, List.length_range] at this ⊢
      omega
    · rw [enc_sum]
      have key : ∀ l : List Nat, (∀ i ∈ l, i < n) → 2 * (l.map fun i => (encW (o i).pw).length).sum ≤ 3 * Rows.uptoBulkAll (l.map D) := fun l => by
        induction l with
        | nil => intro _; simp [Rows.uptoBulkAll]
        | cons a l ih =>
          intro hl
          simp only [List.map_cons, List.sum_cons, Rows.uptoBulkAll]
          have h1 := ih fun i hi => hl i (by simp [hi])
          have h2 := wv_bulk (o a) (ho a (hl a (by simp))).2.2.2
          omega
      have := key (List.range n) (fun i hi => List.mem_range.1 hi)
      omega
    · rw [List.flatMap_map]
      refine krd_fam (sz := 3) (fun i _ => rfl) fun i hi j v hv => ?_
      obtain ⟨_, hlen, hcell⟩ := World.cells?_some (ho i hi).1
      have hj : j < 3 := by
        rcases Nat.lt_or_ge j 3 with h | h
        · exact h
        · rw [List.getElem?_eq_none (by simpa [WV.cells] using h)] at hv; cases hv
      have := hcell j hj
      rw [Deep.add_add] at this
      rw [this, hv]
    · obtain ⟨i, hi, rfl⟩ := List.mem_map.1 hy
      have hi := List.mem_range.1 hi
      obtain ⟨_, h2, h3, h4⟩ := ho i hi
      have h7 : Rows.uptoBulk (D i) ≤ Rows.uptoBulkAll ((List.range n).map D) := by
        have : ∀ l : List Nat, i ∈ l → Rows.uptoBulk (D i) ≤ Rows.uptoBulkAll (l.map D) := fun l => by
          induction l with
          | nil => intro h; cases h
          | cons a l ih =>
            intro h
            simp only [List.map_cons, Rows.uptoBulkAll]
            rcases List.mem_cons.1 h with rfl | h
            · omega
            · have := ih h; omega
        exact this _ (List.mem_range.2 hi)
      exact ⟨h2, h3, by omega, by omega⟩
set_option maxRecDepth 20000 in
/-- A request that came in. -/
theorem kop_open {fuel : Nat} {cs : List Value} {x : DataW H × List MemPlace} (h : DataW.trod enc Tryz.prog w base (fun _ => true) held fuel 34 cs = some x) :
    ∃ o : OV, cs = o.cells ∧ o.sz ≤ 6 * Rows.uptoBulk x.1 ∧ (Rows.uptoBulk x.1 ≤ 1048576 → o.At w) := by
  have c3 : Tryz.prog.cellsOf 3 = 1 := by kernel_rfl
  have cb : Tryz.prog.cellsOf 32 = 1 := by kernel_rfl
  have c5 : Tryz.prog.cellsOf 34 = 2 := by kernel_rfl
  obtain ⟨xs, n, rfl, rfl, hl, hxl, hf⟩ := DataW.trod_struct Tryz.underlying34 h
  rw [c5] at hl
  match xs, hxl, cs, hl with
  | [y0, y1], _, [v0, v1], _ =>
    have g0 := hf 0 _ rfl
    have g1 := hf 1 _ rfl
    simp [c3, cb, List.drop_zero, List.drop_succ_cons, List.take_succ_cons, List.take_zero, List.getElem?_cons_zero, List.getElem?_cons_succ] at g0 g1
    obtain ⟨k, e0, q0, b0⟩ := DataW.trod_int Tryz.underlying3 g0
    obtain ⟨A, c, W, e1, h1, h2, h3⟩ := writes_open g1
    simp only [List.cons.injEq, and_true] at e0 e1
    subst e0 e1
    have hb0 := kbulk_one y0.1
    have hbk : Rows.uptoBulk (DataW.agg (List.map (fun x => x.1) [y0, y1])) = Rows.uptoBulk y0.1 + Rows.uptoBulk y1.1 + 1 := by
      simp only [List.map_cons, List.map_nil, Rows.uptoBulk, Rows.uptoBulkAll]
      omega
    have hb1 := kbulk_one y1.1
    refine ⟨⟨k, A, c, W⟩, rfl, ?_, fun hq => ?_⟩
    · show 18 + ((W.map WV.pw).flatMap encW).length ≤ 6 * Rows.uptoBulk (DataW.agg (List.map (fun x => x.1) [y0, y1]))
      rw [hbk]
      omega
    · replace hq : Rows.uptoBulk (DataW.agg (List.map (fun x => x.1) [y0, y1])) ≤ 1048576 := hq
      rw [hbk] at hq
      exact ⟨kwf_i64 b0, h3 (by omega), by show W.length ≤ _; omega, by show ((W.map WV.pw).flatMap encW).length ≤ _; omega⟩
set_option maxRecDepth 20000 in
/-- A script that came in. -/
theorem script_open {fuel : Nat} {A : Option Addr} {n cap : Nat} {x : DataW H × List MemPlace} (h : DataW.trod enc Tryz.prog w base (fun _ => true) held fuel 22 (Value.slice A n cap).cells.toList = some x) :
    ∃ O : List OV, Rows.uptoBulk x.1 ≤ 1048576 → Script w A n O := by
  have c5 : Tryz.prog.cellsOf 34 = 2 := by kernel_rfl
  rcases open_slice Tryz.underlying22 h with ⟨hcs, hx⟩ | ⟨a, len, cap', m, fl, D, Pl, hcs, hb, hl, hm, hmm, hx, hel⟩
  · simp [Value.cells] at hcs
    obtain ⟨rfl, rfl, rfl⟩ := hcs
    exact ⟨[], fun _ => ⟨rfl, Rd.nil_, by simp, by simp [totO], by omega⟩⟩
  · simp [Value.cells] at hcs
    obtain ⟨rfl, rfl, rfl⟩ := hcs
    simp only [if_true] at hmm
    have hsb : Rows.uptoBulkAll ((List.range n).map D) ≤ Rows.uptoBulk x.1 := by rw [hx]; simp only [Rows.uptoBulk]; omega
    have each : ∀ i, i < n → ∃ o : OV, w.cells? base (a.add (i * 2)) 2 = some o.cells ∧ o.sz ≤ 6 * Rows.uptoBulk (D i) ∧ (Rows.uptoBulk (D i) ≤ 1048576 → o.At w) := fun i hi => by
      obtain ⟨cs', h1, h2⟩ := hel i (by omega)
      rw [c5] at h1
      obtain ⟨o, rfl, h3⟩ := kop_open h2
      exact ⟨o, h1, h3⟩
    have : Inhabited OV := ⟨⟨0, none, 0, []⟩⟩
    obtain ⟨o, ho⟩ := choose_lt each
    refine ⟨(List.range n).map o, fun hbk => ⟨by simp, ?_, fun y hy => ?_, ?_, ?_⟩⟩
    · rw [List.flatMap_map]
      refine krd_fam (sz := 2) (fun i _ => rfl) fun i hi j v hv => ?_
      obtain ⟨_, hlen, hcell⟩ := World.cells?_some (ho i hi).1
      have hj : j < 2 := by
        rcases Nat.lt_or_ge j 2 with h | h
        · exact h
        · rw [List.getElem?_eq_none (by simpa [OV.cells] using h)] at hv; cases hv
      have := hcell j hj
      rw [Deep.add_add] at this
      rw [this, hv]
    · obtain ⟨i, hi, rfl⟩ := List.mem_map.1 hy
      have hi := List.mem_range.1 hi
      have h7 : Rows.uptoBulk (D i) ≤ Rows.uptoBulkAll ((List.range n).map D) := by
        have : ∀ l : List Nat, i ∈ l → Rows.uptoBulk (D i) ≤ Rows.uptoBulkAll (l.map D) := fun l => by
          induction l with
          | nil => intro h; cases h
          | cons a l ih =>
            intro h
            simp only [List.map_cons, Rows.uptoBulkAll]
            rcases List.mem_cons.1 h with rfl | h
            · omega
            · have := ih h; omega
        exact this _ (List.mem_range.2 hi)
      exact (ho i hi).2.2 (by omega)
    · unfold totO
      rw [List.map_map]
      have key : ∀ l : List Nat, (∀ i ∈ l, i < n) → (l.map fun i => (o i).sz).sum ≤ 6 * Rows.uptoBulkAll (l.map D) := fun l => by
        induction l with
        | nil => intro _; simp [Rows.uptoBulkAll]
        | cons a l ih =>
          intro hl
          simp only [List.map_cons, List.sum_cons, Rows.uptoBulkAll]
          have h1 := ih fun i hi => hl i (by simp [hi])
          have h2 := (ho a (hl a (by simp))).2.1
          omega
      have := key (List.range n) (fun i hi => List.mem_range.1 hi)
      show ((List.range n).map fun i => (o i).sz).sum ≤ _
      omega
    · have := kbulk_len ((List.range n).map D)
      simp only [List.length_map, List.length_range] at this
      omega
end
end Go.Proofs.YtjnbbfhoegeppaaGreatDoor
