/-
  Words and laws on slices that read as lists, used by all walks of this family.
-/
import Derived.Test.YtnlphndfnnmdaaaDoorUint
import Derived.Maps.AppendAt
import Derived.Deep.AppendLies
import Derived.Deep.Draws
import Derived.Lib.Hide
import Derived.RegionTactic
import Derived.OwnWalk
set_option linter.unusedSimpArgs false
set_option linter.unusedVariables false
namespace Go.Cv
open Go.RowKit

theorem add_block (a : Addr) (n : Nat) : (a.add n).block = a.block := by unfold Addr.add; split <;> rfl
theorem add_add (a : Addr) (i j : Nat) : (a.add i).add j = a.add (i + j) := by
  unfold Addr.add
  by_cases hi : i = 0 <;> by_cases hj : j = 0 <;> simp [hi, hj, Nat.add_assoc]

/-- A byte in a cell. -/
@[reducible] def bv (b : UInt8) : Value := .int .u8 (n8 b)

/-- The address A leads to cells that hold xs. -/
def Rd (w : World) (A : Option Addr) (xs : List Value) : Prop :=
  ∀ k v, xs[k]? = some v → ∃ ad, A = some ad ∧ w.cell? (ad.add k) = some v

/-- The world has only grown. -/
@[reducible] def Ext (w w' : World) : Prop := Below w.heap.size w w'
theorem Ext.refl (w : World) : Ext w w := Below.refl _ _
theorem Ext.trans {a b c : World} (h : Ext a b) (k : Ext b c) : Ext a c := Below.trans h (Below.mono k h.size)
theorem Ext.drewN {a b : World} (h : Ext a b) (n : Nat) : Ext a (b.drewN n) := ⟨h.os, h.tape, h.output, h.size, h.block⟩

theorem Ext.cell {w w' : World} (h : Ext w w') {p : Addr} {v : Value} (hc : w.cell? p = some v) : w'.cell? p = some v :=
  (Below.cell h (World.block_lt_of_cell? w p hc)).trans hc

section
variable {w w' : World} {A : Option Addr} {xs ys : List Value}
theorem Rd.nil_ : Rd w A [] := fun _ _ h => by simp at h
theorem Rd.ext (h : Rd w A xs) (he : Ext w w') : Rd w' A xs := fun k v hv => by
  obtain ⟨ad, e, hc⟩ := h k v hv
  exact ⟨ad, e, he.cell hc⟩
theorem Rd.drew (h : Rd w A xs) : Rd w.drew A xs := h
theorem Rd.drewN (h : Rd w A xs) (k : Nat) : Rd (w.drewN k) A xs := h
theorem Rd.alloc (h : Rd w A xs) (o : Obj) : Rd (w.alloc o) A xs := h.ext ((Below.refl _ _).alloc (Nat.le_refl _) o)
theorem Rd.some_ (h : Rd w A xs) (hx : 0 < xs.length) : ∃ ad, A = some ad ∧ ad.block < w.heap.size := by
  obtain ⟨ad, e, hc⟩ := h 0 xs[0] (by simp)
  exact ⟨ad, e, by have := World.block_lt_of_cell? w _ hc; rwa [add_block] at this⟩
theorem Rd.at_ (h : Rd w A xs) {k : Nat} (hk : k < xs.length) : ∃ ad, A = some ad ∧ w.cell? (ad.add k) = some xs[k] := h k _ (List.getElem?_eq_getElem hk)
theorem Rd.take (h : Rd w A xs) (n : Nat) : Rd w A (xs.take n) := fun k v hv => h k v (by
  rw [List.getElem?_take] at hv
  split at hv
  · exact hv
  · cases hv)
theorem Rd.drop (h : Rd w A xs) (n : Nat) : Rd w (A.map (·.add n)) (xs.drop n) := fun k v hv => by
  rw [List.getElem?_drop] at hv
  obtain ⟨ad, rfl, hc⟩ := h _ _ hv
  exact ⟨ad.add n, rfl, by rw [add_add]; exact hc⟩
/-- A slice's beginning moved to place l, the capacity being m. -/
theorem Rd.cut (h : Rd w A xs) {l m : Nat} (hl : xs.length ≤ m) : Rd w (if m = l then A else A.map (·.add l)) (xs.drop l) := by
  split
  · rename_i e
    have : xs.drop l = [] := List.drop_eq_nil_of_le (by omega)
    rw [this]; exact Rd.nil_
  · exact h.drop l
/-- The address of a slice's part from place l on, under a capacity m, the elements taking s cells each. -/
def cutA (A : Option Addr) (l m s : Nat) : Option Addr := if m = l then A else A.map (·.add (l * s))
theorem Rd.cutA_ (h : Rd w A xs) {l m : Nat} (hl : xs.length ≤ m) : Rd w (cutA A l m 1) (xs.drop l) := by
  unfold cutA
  split
  · rename_i e
    have : xs.drop l = [] := List.drop_eq_nil_of_le (by omega)
    rw [this]; exact Rd.nil_
  · rw [Nat.mul_one]; exact h.drop l
theorem Rd.of_own {base : Nat} {e : TypeId} {n c : Nat} (h : w.ownsRow base e 1 (.slice A n c) n xs) : Rd w A xs := fun k v hv => by
  have hl := h.1
  have hk : k < xs.length := by
    rcases Nat.lt_or_ge k xs.length with h0 | h0
    · exact h0
    · rw [List.getElem?_eq_none h0] at hv; cases hv
  obtain ⟨g, cap, hv2, _, hlt⟩ := h.form (by omega)
  have hA : A = some ⟨g, 0, none⟩ := by injection hv2
  subst hA
  exact ⟨_, rfl, h.cells (g := g) rfl k v hv⟩
theorem Rd.of_cells {ad : Addr} (h : ∀ j u, xs[j]? = some u → w.cell? (ad.add j) = some u) : Rd w (some ad) xs := fun k v hv => ⟨ad, rfl, h k v hv⟩
end

@[go_sem ↓ high] theorem sliced_cutA (a : Option Addr) (l h m s : Nat) : sliced a l h m s = .slice (cutA a l m s) (h - l) (m - l) := rfl
@[go_sem] theorem cutA_zero (a : Option Addr) (m s : Nat) : cutA a 0 m s = a := by
  unfold cutA
  split
  · rfl
  · rw [Nat.zero_mul]
    cases a <;> rfl
attribute [go_sem] Nat.add_sub_cancel_left
theorem one_map_bv (l : List UInt8) : ∀ u ∈ l.map bv, u.oneCell' = true := by
  intro u hu
  obtain ⟨b, _, rfl⟩ := List.mem_map.1 hu
  rfl

/-- An address that is new differs from one whose cell was there. -/
theorem ext_alloc (w : World) (o : Obj) : Ext w (w.alloc o) := (Below.refl _ _).alloc (Nat.le_refl _) o
theorem ext_drew (w : World) : Ext w w.drew := (Below.refl _ _).drew

/-- 'append(own row, what is read)'. -/
theorem run_append_rd {P : Program} (w : World) (base : Nat) (t ty e : TypeId) (i : TypeInfo) (z : Value) (bytes : Nat) (ht : P.underlying t = some (.slice e)) (hi : P.info? e = some i) (hz : i.zero = some z)
    (hsize : i.size = 1) (hby : i.bytes = bytes) (hzs : z.cells.size = 1)
    (v : Value) (n : Nat) (xs : List Value) (hown : w.ownsRow base e 1 v n xs)
    (A : Option Addr) (m c : Nat) (news : List Value) (hm : news.length = m) (hr : Rd w A news) (h1 : ∀ u ∈ news, u.oneCell' = true)
    (h63 : n + m ≤ maxLen) (hbytes : (n + m) * bytes ≤ 140737488355328) (hbase : base ≤ w.heap.size) :
    ∃ v' w', (Builtin.append_ #[t, t] ty #[v, .slice A m c]).run P w = .ok v' w' ∧ w'.ownsRow base e 1 v' (n + m) (xs ++ news) ∧ w.grownBy w' v.ownBlock ∧
      (v'.ownBlock = v.ownBlock ∨ v'.ownBlock = some w.heap.size) := by
  subst hm
  rcases A with _ | ad
  · have hn : news = [] := by
      rcases news with _ | ⟨x, r⟩
      · rfl
      · obtain ⟨ad, h, _⟩ := hr 0 x rfl
        cases h
    subst hn
    refine ⟨v, w, ?_, by simpa using hown, World.grownBy.refl w _, .inl rfl⟩
    rcases hown.2 with ⟨rfl, rfl⟩ | ⟨g, cap, cur, rfl, _, _, hnc, _⟩
    · simp [Builtin.append_, run_underlying ht, sizeOf, typeInfo, hi, Builtin.lenOf, Builtin.firstCells]
    · simp [Builtin.append_, run_underlying ht, sizeOf, typeInfo, hi, Builtin.lenOf, Builtin.firstCells, hnc, storeCells]
  · have hcells : ∀ j u, news[j]? = some u → w.cell? (ad.add j) = some u := fun j u hu => by
      obtain ⟨ad', h, hc⟩ := hr j u hu
      injection h with h
      subst h
      exact hc
    obtain ⟨v', w', hrun, h2, h3, _, h5⟩ := run_append_own_at (P := P) w base t ty e i z 1 bytes ht hi hz hsize hby hzs (by omega) v n xs hown ad news.length c news (by simp) hcells h1 h63 hbytes hbase
    exact ⟨v', w', hrun, h2, h3, h5⟩

theorem wp_append_rd {P : Program} (w : World) {o : Oper} {a : Act} {K : Act → World → Prop} {Q : Exit → Act → World → Prop} (s x : Operand) (t : TypeId)
    (ho : o.op = .call { callee := .builtin .append, args := #[s, x], argTypes := #[t, t] })
    (base : Nat) (e : TypeId) (i : TypeInfo) (z : Value) (bytes : Nat) (ht : P.underlying t = some (.slice e)) (hi : P.info? e = some i) (hz : i.zero = some z)
    (hsize : i.size = 1) (hby : i.bytes = bytes) (hzs : z.cells.size = 1)
    (v : Value) (n : Nat) (xs : List Value) (hs : a.eval s = v) (hown : w.ownsRow base e 1 v n xs)
    (A : Option Addr) (m c : Nat) (news : List Value) (hx : a.eval x = .slice A m c) (hm : news.length = m) (hr : Rd w A news) (h1 : ∀ u ∈ news, u.oneCell' = true)
    (h63 : n + m ≤ maxLen) (hbytes : (n + m) * bytes ≤ 140737488355328) (hbase : base ≤ w.heap.size)
    (h : ∀ v' w', w'.ownsRow base e 1 v' (n + m) (xs ++ news) → w.grownBy w' v.ownBlock → (v'.ownBlock = v.ownBlock ∨ v'.ownBlock = some w.heap.size) → K (a.put o.dst v') w') : o.wp P a w K Q := by
  obtain ⟨v', w', hrun, h2, h3, h4⟩ := run_append_rd (P := P) w base t o.type e i z bytes ht hi hz hsize hby hzs v n xs hown A m c news hm hr h1 h63 hbytes hbase
  unfold Oper.wp execOp
  simp only [ho, resolve, invoke, builtin, Sem.run_bind, Sem.run_pure, Result.andThen_ok, List.map_toArray, List.map_cons, List.map_nil, hs, hx, hrun]
  exact h v' w' h2 h3 h4

theorem run_firstCells_rd {P : Program} (w : World) (size n c : Nat) (hs : size = 1) (A : Option Addr) (xs : List Value) (hn : xs.length = n) (h : Rd w A xs) :
    (Builtin.firstCells size n (.slice A n c)).run P w = .ok xs.toArray w := by
  subst hs
  rcases A with _ | ad
  · have hx : xs = [] := by
      rcases xs with _ | ⟨x, r⟩
      · rfl
      · obtain ⟨ad, h', _⟩ := h 0 x rfl
        cases h'
    subst hx
    simp [Builtin.firstCells]
  · exact run_firstCells_some (P := P) w 1 n ad n c xs (by omega) fun j u hu => by
      obtain ⟨ad', h', hc⟩ := h j u hu
      injection h' with h'
      subst h'
      exact hc

/-- 'append(what is read and has no room, what is read)': a new row. -/
theorem run_append_new {P : Program} (w : World) (t ty e : TypeId) (i : TypeInfo) (z : Value) (bytes : Nat) (ht : P.underlying t = some (.slice e)) (hi : P.info? e = some i) (hz : i.zero = some z)
    (hsize : i.size = 1) (hby : i.bytes = bytes) (hzs : z.cells.size = 1)
    (A : Option Addr) (n c : Nat) (xs : List Value) (hn : xs.length = n) (hx : Rd w A xs)
    (B : Option Addr) (m d : Nat) (news : List Value) (hm : news.length = m) (hr : Rd w B news) (hroom : c < n + m)
    (h63 : n + m ≤ maxLen) (hbytes : (n + m) * bytes ≤ 140737488355328) :
    ∃ v' w', (Builtin.append_ #[t, t] ty #[.slice A n c, .slice B m d]).run P w = .ok v' w' ∧ w'.ownsRow w.heap.size e 1 v' (n + m) (xs ++ news) ∧ Ext w w' ∧
      v'.ownBlock = some w.heap.size := by
  have hn' : ¬ (n + m ≤ c) := by omega
  have h63a : n + m ≤ 9223372036854775807 := by simp only [maxLen] at h63; omega
  have h63' : ¬ (9223372036854775807 < ((n : Int) + (m : Int))) := by omega
  have h48' : ¬ (281474976710656 < Builtin.nextslicecap (n + m) c * i.bytes) := by
    have := growslice_fits (need := n + m) (old := c) (bytes := i.bytes) hroom (by rw [hby]; exact hbytes)
    omega
  have hfo := run_firstCells_rd (P := P) w.drew i.size n c hsize A xs hn hx.drew
  have hf := run_firstCells_rd (P := P) w.drew i.size m d hsize B news hm hr.drew
  have hlen : (xs ++ news).length = (n + m) * 1 := by simp [hn, hm]
  refine ⟨.slice (some ⟨w.heap.size, 0, none⟩) (n + m) (grownCap w (n + m) c e), w.drew.alloc (.cells ((xs ++ news).toArray ++ Builtin.zeroCells z.cells (grownCap w (n + m) c e - (n + m))) e), ?_, ?_, ?_, rfl⟩
  · simp [Builtin.append_, run_underlying ht, sizeOf, typeInfo, zeroValue, hi, hz, Builtin.lenOf, hn', h63', h48', Question.forced, hf, hfo, newRow, grownCap]
    rw [← List.append_toArray, Array.append_assoc]
  · have hge := grownCap_ge w (n + m) c e
    have hcm : grownCap w (n + m) c e ≤ maxLen := grownCap_le_maxLen w (n + m) c e h63
    refine ⟨hlen, .inr ⟨w.heap.size, _, _, rfl, Nat.le_refl _, heap_alloc_new w.drew _, hge, hcm, ?_, ?_⟩⟩
    · simp only [Array.size_append, List.size_toArray, size_zeroCells, hzs, hn, hm]
      omega
    · simp only [Array.toList_append]
      rw [← hlen]
      exact List.take_left
  · exact (ext_drew w).alloc (by simp) _

theorem wp_append_new {P : Program} (w : World) {o : Oper} {a : Act} {K : Act → World → Prop} {Q : Exit → Act → World → Prop} (s x : Operand) (t : TypeId)
    (ho : o.op = .call { callee := .builtin .append, args := #[s, x], argTypes := #[t, t] })
    (e : TypeId) (i : TypeInfo) (z : Value) (bytes : Nat) (ht : P.underlying t = some (.slice e)) (hi : P.info? e = some i) (hz : i.zero = some z)
    (hsize : i.size = 1) (hby : i.bytes = bytes) (hzs : z.cells.size = 1)
    (A : Option Addr) (n c : Nat) (xs : List Value) (hs : a.eval s = .slice A n c) (hn : xs.length = n) (hxs : Rd w A xs)
    (B : Option Addr) (m d : Nat) (news : List Value) (hx : a.eval x = .slice B m d) (hm : news.length = m) (hr : Rd w B news) (hroom : c < n + m)
    (h63 : n + m ≤ maxLen) (hbytes : (n + m) * bytes ≤ 140737488355328)
    (h : ∀ v' w', w'.ownsRow w.heap.size e 1 v' (n + m) (xs ++ news) → Ext w w' → v'.ownBlock = some w.heap.size → K (a.put o.dst v') w') : o.wp P a w K Q := by
  obtain ⟨v', w', hrun, h2, h3, h4⟩ := run_append_new (P := P) w t o.type e i z bytes ht hi hz hsize hby hzs A n c xs hn hxs B m d news hm hr hroom h63 hbytes
  unfold Oper.wp execOp
  simp only [ho, resolve, invoke, builtin, Sem.run_bind, Sem.run_pure, Result.andThen_ok, List.map_toArray, List.map_cons, List.map_nil, hs, hx, hrun]
  exact h v' w' h2 h3 h4

theorem own_base {w : World} {base base' : Nat} {e : TypeId} {s n : Nat} {v : Value} {xs : List Value} (h : w.ownsRow base e s v n xs) (hb : base' ≤ base) : w.ownsRow base' e s v n xs := by
  refine ⟨h.1, ?_⟩
  rcases h.2 with h2 | ⟨g, cap, cur, hv, hg, r⟩
  · exact .inl h2
  · exact .inr ⟨g, cap, cur, hv, by omega, r⟩
theorem own_len {w : World} {base : Nat} {e : TypeId} {s n m : Nat} {v : Value} {xs : List Value} (h : w.ownsRow base e s v n xs) (hn : n = m) : w.ownsRow base e s v m xs := hn ▸ h
theorem own_ext {w w' : World} {base : Nat} {e : TypeId} {s n : Nat} {v : Value} {xs : List Value} (h : w.ownsRow base e s v n xs) (hx : Ext w w') : w'.ownsRow base e s v n xs := by
  refine ⟨h.1, ?_⟩
  rcases h.2 with h2 | ⟨g, cap, cur, hv, hg, hgg, r⟩
  · exact .inl h2
  · exact .inr ⟨g, cap, cur, hv, hg, (hx.block g (Array.getElem?_eq_some_iff.1 hgg).1).trans hgg, r⟩
theorem own_fresh {w : World} {base : Nat} {e : TypeId} {s n c : Nat} {A : Option Addr} {xs : List Value} (h : w.ownsRow base e s (.slice A n c) n xs) : ∀ ad, A = some ad → base ≤ ad.block :=
  fun ad ha => (h.lt ad.block (by rw [ha]; rfl)).1
theorem rd_new_one (w : World) (v : Value) (t : TypeId) : Rd (w.alloc (.cells #[v] t)) (some ⟨w.heap.size, 0, none⟩) [v] := Rd.of_cells (cell_one_new w v t)
theorem one_slice (A : Option Addr) (n c : Nat) : ∀ u ∈ [Value.slice A n c], u.oneCell' = true := by
  intro u hu
  rw [List.mem_singleton.1 hu]; rfl
theorem ext_grown {w w' w'' : World} {base : Nat} {e : TypeId} {s n : Nat} {v : Value} {xs : List Value} (h : Ext w w') (ho : w'.ownsRow base e s v n xs) (hb : w.heap.size ≤ base) (hg : w'.grownBy w'' v.ownBlock) : Ext w w'' :=
  Below.grown h hg h.size fun k hk => Nat.le_trans hb (ho.lt k hk).1

theorem own_form {w : World} {base : Nat} {e : TypeId} {v : Value} {n : Nat} {xs : List Value} (h : w.ownsRow base e 1 v n xs) :
    ∃ A c, v = .slice A n c ∧ n ≤ c ∧ c ≤ maxLen ∧ Rd w A xs ∧ xs.length = n := by
  have hl := h.1
  rcases h.2 with ⟨rfl, rfl⟩ | ⟨g, cap, cur, rfl, _, _, hnc, hcm, _⟩
  · have : xs = [] := List.eq_nil_of_length_eq_zero (by omega)
    subst this
    exact ⟨none, 0, rfl, Nat.le_refl _, Nat.zero_le _, Rd.nil_, rfl⟩
  · exact ⟨_, cap, rfl, hnc, hcm, Rd.of_own h, by omega⟩

/-- The slice type t has one-cell elements of type e, of so many bytes. -/
def RowT (P : Program) (t e : TypeId) (bytes : Nat) : Prop :=
  P.underlying t = some (.slice e) ∧ ∃ z i, P.info? e = some i ∧ i.zero = some z ∧ i.size = 1 ∧ i.bytes = bytes ∧ z.cells.size = 1
theorem RowT.of {P : Program} {t e : TypeId} {z : Value} {bytes : Nat} (ht : P.underlying t = some (.slice e)) (h : (P.info? e).map (fun i => (i.zero, i.size, i.bytes)) = some (some z, 1, bytes)) (hz : z.cells.size = 1) : RowT P t e bytes := by
  obtain ⟨i, h1, h2, h3, h4⟩ := info_parts h
  exact ⟨ht, z, i, h1, h2, h3, h4, hz⟩

section
variable {P : Program} {w : World} {ops : Array Oper} {rest : List Oper} {o : Oper} {a : Act} {K : Act → World → Prop} {Q : Exit → Act → World → Prop}
/-- 'append(a row of the call's own, what is read)'. -/
theorem wp_app (s x : Operand) (t e : TypeId) (bytes : Nat)
    (ho : o.op = .call { callee := .builtin .append, args := #[s, x], argTypes := #[t, t] }) (hT : RowT P t e bytes)
    (base : Nat) (v : Value) (n : Nat) (xs : List Value) (hs : a.eval s = v) (hown : w.ownsRow base e 1 v n xs)
    (A : Option Addr) (m c : Nat) (news : List Value) (hx : a.eval x = .slice A m c) (hm : news.length = m) (hr : Rd w A news) (h1 : ∀ u ∈ news, u.oneCell' = true)
    (h63 : n + m ≤ maxLen) (hbytes : (n + m) * bytes ≤ 140737488355328) (hbase : base ≤ w.heap.size)
    (h : ∀ A' c' w', w'.ownsRow base e 1 (.slice A' (n + m) c') (n + m) (xs ++ news) → n + m ≤ c' → c' ≤ maxLen → Rd w' A' (xs ++ news) → (∀ W, Ext W w → W.heap.size ≤ base → Ext W w') → w.grownBy w' v.ownBlock → K (a.put o.dst (.slice A' (n + m) c')) w') : o.wp P a w K Q := by
  obtain ⟨ht, z, i, hi, hz, hsize, hby, hzs⟩ := hT
  refine wp_append_rd w s x t ho base e i z bytes ht hi hz hsize hby hzs v n xs hs hown A m c news hx hm hr h1 h63 hbytes hbase fun v' w' h2 h3 h4 => ?_
  obtain ⟨A', c', rfl, hc, hcm, hr', _⟩ := own_form h2
  exact h A' c' w' h2 hc hcm hr' (fun W hW hWb => ext_grown hW hown hWb h3) h3
theorem wpList_app (hgd : o.guard = none) (s x : Operand) (t e : TypeId) (bytes : Nat)
    (ho : o.op = .call { callee := .builtin .append, args := #[s, x], argTypes := #[t, t] }) (hT : RowT P t e bytes)
    (base : Nat) (v : Value) (n : Nat) (xs : List Value) (hs : a.eval s = v) (hown : w.ownsRow base e 1 v n xs)
    (A : Option Addr) (m c : Nat) (news : List Value) (hx : a.eval x = .slice A m c) (hm : news.length = m) (hr : Rd w A news) (h1 : ∀ u ∈ news, u.oneCell' = true)
    (h63 : n + m ≤ maxLen) (hbytes : (n + m) * bytes ≤ 140737488355328) (hbase : base ≤ w.heap.size)
    (h : ∀ A' c' w', w'.ownsRow base e 1 (.slice A' (n + m) c') (n + m) (xs ++ news) → n + m ≤ c' → c' ≤ maxLen → Rd w' A' (xs ++ news) → (∀ W, Ext W w → W.heap.size ≤ base → Ext W w') → w.grownBy w' v.ownBlock → wpList P ops Q rest (a.put o.dst (.slice A' (n + m) c')) w') : wpList P ops Q (o :: rest) a w :=
  wpList_plain hgd fun _ hK => wp_app s x t e bytes ho hT base v n xs hs hown A m c news hx hm hr h1 h63 hbytes hbase fun A' c' w' h2 h3 h4 h5 h6 h7 => hK _ _ (h A' c' w' h2 h3 h4 h5 h6 h7)
theorem step_app {E : Prop} (hgd : o.guard = none) (s x : Operand) (t e : TypeId) (bytes : Nat)
    (ho : o.op = .call { callee := .builtin .append, args := #[s, x], argTypes := #[t, t] }) (hT : RowT P t e bytes)
    (base : Nat) (v : Value) (n : Nat) (xs : List Value) (hs : a.eval s = v) (hown : w.ownsRow base e 1 v n xs)
    (A : Option Addr) (m c : Nat) (news : List Value) (hx : a.eval x = .slice A m c) (hm : news.length = m) (hr : Rd w A news) (h1 : ∀ u ∈ news, u.oneCell' = true)
    (h63 : n + m ≤ maxLen) (hbytes : (n + m) * bytes ≤ 140737488355328) (hbase : base ≤ w.heap.size)
    (h : ∀ A' c' w', w'.ownsRow base e 1 (.slice A' (n + m) c') (n + m) (xs ++ news) → n + m ≤ c' → c' ≤ maxLen → Rd w' A' (xs ++ news) → (∀ W, Ext W w → W.heap.size ≤ base → Ext W w') → w.grownBy w' v.ownBlock → K (a.put o.dst (.slice A' (n + m) c')) w') :
    if Region.wanted o (yielded ops a.tmps) = true then Oper.wp P o a w K Q else E := by
  have hw : Region.wanted o (yielded ops a.tmps) = true := by simp [Region.wanted, hgd]
  rw [if_pos hw]
  exact wp_app s x t e bytes ho hT base v n xs hs hown A m c news hx hm hr h1 h63 hbytes hbase h

/-- 'append(what is read and has no room, what is read)'. -/
theorem wp_appnew (s x : Operand) (t e : TypeId) (bytes : Nat)
    (ho : o.op = .call { callee := .builtin .append, args := #[s, x], argTypes := #[t, t] }) (hT : RowT P t e bytes)
    (A : Option Addr) (n c : Nat) (xs : List Value) (hs : a.eval s = .slice A n c) (hn : xs.length = n) (hxs : Rd w A xs)
    (B : Option Addr) (m d : Nat) (news : List Value) (hx : a.eval x = .slice B m d) (hm : news.length = m) (hr : Rd w B news) (hroom : c < n + m)
    (h63 : n + m ≤ maxLen) (hbytes : (n + m) * bytes ≤ 140737488355328)
    (h : ∀ A' c' w', w'.ownsRow w.heap.size e 1 (.slice A' (n + m) c') (n + m) (xs ++ news) → n + m ≤ c' → c' ≤ maxLen → Rd w' A' (xs ++ news) → Ext w w' → K (a.put o.dst (.slice A' (n + m) c')) w') : o.wp P a w K Q := by
  obtain ⟨ht, z, i, hi, hz, hsize, hby, hzs⟩ := hT
  refine wp_append_new w s x t ho e i z bytes ht hi hz hsize hby hzs A n c xs hs hn hxs B m d news hx hm hr hroom h63 hbytes fun v' w' h2 h3 h4 => ?_
  obtain ⟨A', c', rfl, hc, hcm, hr', _⟩ := own_form h2
  exact h A' c' w' h2 hc hcm hr' h3
theorem wpList_appnew (hgd : o.guard = none) (s x : Operand) (t e : TypeId) (bytes : Nat)
    (ho : o.op = .call { callee := .builtin .append, args := #[s, x], argTypes := #[t, t] }) (hT : RowT P t e bytes)
    (A : Option Addr) (n c : Nat) (xs : List Value) (hs : a.eval s = .slice A n c) (hn : xs.length = n) (hxs : Rd w A xs)
    (B : Option Addr) (m d : Nat) (news : List Value) (hx : a.eval x = .slice B m d) (hm : news.length = m) (hr : Rd w B news) (hroom : c < n + m)
    (h63 : n + m ≤ maxLen) (hbytes : (n + m) * bytes ≤ 140737488355328)
    (h : ∀ A' c' w', w'.ownsRow w.heap.size e 1 (.slice A' (n + m) c') (n + m) (xs ++ news) → n + m ≤ c' → c' ≤ maxLen → Rd w' A' (xs ++ news) → Ext w w' → wpList P ops Q rest (a.put o.dst (.slice A' (n + m) c')) w') : wpList P ops Q (o :: rest) a w :=
  wpList_plain hgd fun _ hK => wp_appnew s x t e bytes ho hT A n c xs hs hn hxs B m d news hx hm hr hroom h63 hbytes fun A' c' w' h2 h3 h4 h5 h6 => hK _ _ (h A' c' w' h2 h3 h4 h5 h6)
theorem step_appnew {E : Prop} (hgd : o.guard = none) (s x : Operand) (t e : TypeId) (bytes : Nat)
    (ho : o.op = .call { callee := .builtin .append, args := #[s, x], argTypes := #[t, t] }) (hT : RowT P t e bytes)
    (A : Option Addr) (n c : Nat) (xs : List Value) (hs : a.eval s = .slice A n c) (hn : xs.length = n) (hxs : Rd w A xs)
    (B : Option Addr) (m d : Nat) (news : List Value) (hx : a.eval x = .slice B m d) (hm : news.length = m) (hr : Rd w B news) (hroom : c < n + m)
    (h63 : n + m ≤ maxLen) (hbytes : (n + m) * bytes ≤ 140737488355328)
    (h : ∀ A' c' w', w'.ownsRow w.heap.size e 1 (.slice A' (n + m) c') (n + m) (xs ++ news) → n + m ≤ c' → c' ≤ maxLen → Rd w' A' (xs ++ news) → Ext w w' → K (a.put o.dst (.slice A' (n + m) c')) w') :
    if Region.wanted o (yielded ops a.tmps) = true then Oper.wp P o a w K Q else E := by
  have hw : Region.wanted o (yielded ops a.tmps) = true := by simp [Region.wanted, hgd]
  rw [if_pos hw]
  exact wp_appnew s x t e bytes ho hT A n c xs hs hn hxs B m d news hx hm hr hroom h63 hbytes h
/-- 'append(nil, what is read)'. -/
theorem wpList_app0 (hgd : o.guard = none) (s x : Operand) (t e : TypeId) (bytes : Nat)
    (ho : o.op = .call { callee := .builtin .append, args := #[s, x], argTypes := #[t, t] }) (hT : RowT P t e bytes) (hs : a.eval s = .slice none 0 0)
    (A : Option Addr) (m c : Nat) (news : List Value) (hx : a.eval x = .slice A m c) (hm : news.length = m) (hr : Rd w A news) (h1 : ∀ u ∈ news, u.oneCell' = true)
    (h63 : m ≤ maxLen) (hbytes : m * bytes ≤ 140737488355328)
    (h : ∀ A' c' w', w'.ownsRow w.heap.size e 1 (.slice A' m c') m news → m ≤ c' → c' ≤ maxLen → Rd w' A' news → Ext w w' → wpList P ops Q rest (a.put o.dst (.slice A' m c')) w') : wpList P ops Q (o :: rest) a w :=
  wpList_app hgd s x t e bytes ho hT w.heap.size _ 0 [] hs (World.ownsRow_nil w _ e 1) A m c news hx hm hr h1 (by omega) (by simpa using hbytes) (Nat.le_refl _) fun A' c' w' h2 h3 h4 h5 h6 _ => by
    simp only [Nat.zero_add, List.nil_append] at h2 h3 h5 ⊢
    exact h A' c' w' h2 h3 h4 h5 (h6 w (Ext.refl w) (Nat.le_refl _))
/-- The same of bytes. -/
theorem wpList_appb0 (hgd : o.guard = none) (s x : Operand) (t e : TypeId)
    (ho : o.op = .call { callee := .builtin .append, args := #[s, x], argTypes := #[t, t] }) (hT : RowT P t e 1) (hs : a.eval s = .slice none 0 0)
    (A : Option Addr) (m c : Nat) (news : List UInt8) (hx : a.eval x = .slice A m c) (hm : news.length = m) (hr : Rd w A (news.map bv))
    (hbytes : m ≤ 140737488355328)
    (h : ∀ A' c' w', w'.ownsRow w.heap.size e 1 (.slice A' m c') m (news.map bv) → m ≤ c' → c' ≤ maxLen → Rd w' A' (news.map bv) → Ext w w' → wpList P ops Q rest (a.put o.dst (.slice A' m c')) w') : wpList P ops Q (o :: rest) a w :=
  wpList_app0 hgd s x t e 1 ho hT hs A m c _ hx (by simpa using hm) hr (one_map_bv _) (by unfold maxLen; omega) (by omega) h
theorem wpList_appb (hgd : o.guard = none) (s x : Operand) (t e : TypeId)
    (ho : o.op = .call { callee := .builtin .append, args := #[s, x], argTypes := #[t, t] }) (hT : RowT P t e 1)
    (base : Nat) (v : Value) (n : Nat) (xs : List UInt8) (hs : a.eval s = v) (hown : w.ownsRow base e 1 v n (xs.map bv))
    (A : Option Addr) (m c : Nat) (news : List UInt8) (hx : a.eval x = .slice A m c) (hm : news.length = m) (hr : Rd w A (news.map bv))
    (hbytes : n + m ≤ 140737488355328) (hbase : base ≤ w.heap.size)
    (h : ∀ A' c' w', w'.ownsRow base e 1 (.slice A' (n + m) c') (n + m) ((xs ++ news).map bv) → n + m ≤ c' → c' ≤ maxLen → Rd w' A' ((xs ++ news).map bv) → (∀ W, Ext W w → W.heap.size ≤ base → Ext W w') → wpList P ops Q rest (a.put o.dst (.slice A' (n + m) c')) w') : wpList P ops Q (o :: rest) a w :=
  wpList_app hgd s x t e 1 ho hT base v n _ hs hown A m c _ hx (by simpa using hm) hr (one_map_bv _) (by unfold maxLen; omega) (by omega) hbase fun A' c' w' h2 h3 h4 h5 h6 _ => by
    rw [← List.map_append] at h2 h5
    exact h A' c' w' h2 h3 h4 h5 h6
theorem wpList_appbg (hgd : o.guard = none) (s x : Operand) (t e : TypeId)
    (ho : o.op = .call { callee := .builtin .append, args := #[s, x], argTypes := #[t, t] }) (hT : RowT P t e 1)
    (base : Nat) (v : Value) (n : Nat) (xs : List UInt8) (hs : a.eval s = v) (hown : w.ownsRow base e 1 v n (xs.map bv))
    (A : Option Addr) (m c : Nat) (news : List UInt8) (hx : a.eval x = .slice A m c) (hm : news.length = m) (hr : Rd w A (news.map bv))
    (hbytes : n + m ≤ 140737488355328) (hbase : base ≤ w.heap.size)
    (h : ∀ A' c' w', w'.ownsRow base e 1 (.slice A' (n + m) c') (n + m) ((xs ++ news).map bv) → n + m ≤ c' → c' ≤ maxLen → Rd w' A' ((xs ++ news).map bv) → (∀ W, Ext W w → W.heap.size ≤ base → Ext W w') → w.grownBy w' v.ownBlock → wpList P ops Q rest (a.put o.dst (.slice A' (n + m) c')) w') : wpList P ops Q (o :: rest) a w :=
  wpList_app hgd s x t e 1 ho hT base v n _ hs hown A m c _ hx (by simpa using hm) hr (one_map_bv _) (by unfold maxLen; omega) (by omega) hbase fun A' c' w' h2 h3 h4 h5 h6 h7 => by
    rw [← List.map_append] at h2 h5
    exact h A' c' w' h2 h3 h4 h5 h6 h7
end

theorem run_convert_rd {P : Program} (w : World) (src dst e : TypeId) (hs : P.underlying src = some (.slice e)) (he : P.underlying e = some (.int .u8)) (hd : P.underlying dst = some .string)
    (A : Option Addr) (n c : Nat) (l : List UInt8) (hn : l.length = n) (hr : Rd w A (l.map bv)) :
    (convert src dst (.slice A n c)).run P w = .ok (.string ⟨l.toArray⟩) w := by
  rcases A with _ | ad
  · have hx : l = [] := by
      rcases l with _ | ⟨x, r⟩
      · rfl
      · obtain ⟨ad, h', _⟩ := hr 0 (bv x) rfl
        cases h'
    subst hx
    rw [run_convert_bytes_nil w src e hs he n c dst hd]
    rfl
  · have hl : (loadCells ad n).run P w = .ok ((l.map n8).map (Value.int .u8)).toArray w := by
      have := run_loadCells_list (P := P) w ad (l.map bv) fun j u hu => by
        obtain ⟨ad', h', hc⟩ := hr j u hu
        injection h' with h'
        subst h'
        exact hc
      rw [List.length_map, hn] at this
      rw [this]
      simp [bv]
    rw [run_convert_bytes_string w src dst e _ n c hs he hd, run_bytesToString w _ n c _ hl, foldl_push_bytes]
    simp [ByteArray.empty, ByteArray.emptyWithCapacity, Function.comp_def, n8_toNat]
    rfl

theorem wpList_convert_rd {P : Program} (w : World) {ops : Array Oper} {rest : List Oper} {o : Oper} {a : Act} {Q : Exit → Act → World → Prop} (hgd : Region.wanted o (yielded ops a.tmps) = true) (x : Operand) (src dst e : TypeId)
    (ho : o.op = .convert src dst x) (hs : P.underlying src = some (.slice e)) (he : P.underlying e = some (.int .u8)) (hd : P.underlying dst = some .string)
    (A : Option Addr) (n c : Nat) (l : List UInt8) (hx : a.eval x = .slice A n c) (hn : l.length = n) (hr : Rd w A (l.map bv))
    (h : wpList P ops Q rest (a.put o.dst (.string ⟨l.toArray⟩)) w) : wpList P ops Q (o :: rest) a w :=
  wpList_step fun K hK => by
    rw [if_pos hgd]
    unfold Oper.wp execOp
    simp only [ho, hx, Sem.run_bind, run_convert_rd w src dst e hs he hd A n c l hn hr, Result.andThen_ok]
    exact hK _ _ h

/-- Block b is a row of cells of type T. -/
def Ty (w : World) (b : Nat) (T : TypeId) : Prop := ∃ cs fr, w.heap[b]? = some (.cells cs T fr)
theorem Ty.ext {w w' : World} {b : Nat} {T : TypeId} (h : Ty w b T) (hx : Ext w w') : Ty w' b T := by
  obtain ⟨cs, fr, hh⟩ := h
  exact ⟨cs, fr, (hx.block b (Array.getElem?_eq_some_iff.1 hh).1).trans hh⟩
theorem Ty.lt {w : World} {b : Nat} {T : TypeId} (h : Ty w b T) : b < w.heap.size := by
  obtain ⟨cs, fr, hh⟩ := h
  exact (Array.getElem?_eq_some_iff.1 hh).1
theorem Ty.grown {w w' : World} {b : Nat} {T : TypeId} {row : Option Nat} (h : Ty w b T) (hg : w.grownBy w' row) (hne : some b ≠ row) : Ty w' b T := by
  have hl := h.lt
  obtain ⟨cs, fr, hh⟩ := h
  exact ⟨cs, fr, (hg.block b hl hne).trans hh⟩
theorem own_ty {w : World} {base : Nat} {e : TypeId} {s n c : Nat} {A : Option Addr} {xs : List Value} (h : w.ownsRow base e s (.slice A n c) n xs) : ∀ ad, A = some ad → Ty w ad.block e := by
  intro ad ha
  subst ha
  rcases h.2 with ⟨hv, _⟩ | ⟨g, cap, cur, hv, _, hh, _⟩
  · cases hv
  · injection hv with hv
    injection hv with hv
    subst hv
    exact ⟨cur, _, hh⟩
theorem own_ty_ne {w : World} {base : Nat} {e T : TypeId} {s n b : Nat} {v : Value} {xs : List Value} (h : w.ownsRow base e s v n xs) (hT : Ty w b T) (hne : e ≠ T) : some b ≠ v.ownBlock := by
  intro he
  obtain ⟨cs, fr, hh⟩ := hT
  rcases h.2 with ⟨rfl, _⟩ | ⟨g, cap, cur, rfl, _, hg, _⟩
  · cases he
  · have : b = g := by simpa [Value.ownBlock] using he
    subst this
    rw [hh] at hg
    injection hg with hg
    injection hg with _ h2
    exact hne h2.symm
theorem own_kept_ty {w w' : World} {base base2 : Nat} {e e2 : TypeId} {s s2 n n2 : Nat} {v v2 : Value} {xs xs2 : List Value} (h : w.ownsRow base e s v n xs) (h2 : w.ownsRow base2 e2 s2 v2 n2 xs2) (hne : e2 ≠ e) (hg : w.grownBy w' v2.ownBlock) : w'.ownsRow base e s v n xs := by
  refine h.kept hg ?_
  rcases h.2 with ⟨rfl, _⟩ | ⟨g, cap, cur, rfl, _, hh, _⟩
  · exact .inl rfl
  · exact .inr (own_ty_ne h2 ⟨cur, _, hh⟩ hne)
theorem one_int (k : IntKind) (i : Int) : ∀ u ∈ [Value.int k i], u.oneCell' = true := by
  intro u hu
  rw [List.mem_singleton.1 hu]; rfl
theorem mem_le_sum {x : Nat} : ∀ {l : List Nat}, x ∈ l → x ≤ l.sum
  | [], h => by simp at h
  | y :: l, h => by
    rw [List.sum_cons]
    rcases List.mem_cons.1 h with rfl | h
    · omega
    · have := mem_le_sum h; omega
/-- Places: of fresh rows of type T from block B on; of old memory. -/
def Fresh (B : Nat) (T : TypeId) (w : World) (ad : Addr) : Prop := B ≤ ad.block ∧ Ty w ad.block T
def Old (B : Nat) (_ : World) (ad : Addr) : Prop := ad.block < B
theorem Fresh.ext {B : Nat} {T : TypeId} {w w' : World} (hx : Ext w w') : ∀ ad, Fresh B T w ad → Fresh B T w' ad := fun _ h => ⟨h.1, h.2.ext hx⟩
theorem Old.ext {B : Nat} {w w' : World} : ∀ ad, Old B w ad → Old B w' ad := fun _ h => h
theorem Rd.grown {w w' : World} {A : Option Addr} {xs : List Value} {row : Option Nat} (h : Rd w A xs) (hg : w.grownBy w' row) (hne : ∀ ad, A = some ad → some ad.block ≠ row) : Rd w' A xs := fun k v hv => by
  obtain ⟨ad, e, hc⟩ := h k v hv
  refine ⟨ad, e, ?_⟩
  have hl := World.block_lt_of_cell? w _ hc
  rw [add_block] at hl
  exact (World.cell?_of_block (by rw [add_block]; exact hg.block ad.block hl (hne ad e))).trans hc

/-- A value that is a slice of bytes, at a place of S. -/
def IsB (S : World → Addr → Prop) (w : World) (v : Value) (l : List UInt8) : Prop :=
  ∃ A n c, v = .slice A n c ∧ l.length = n ∧ n ≤ c ∧ c ≤ maxLen ∧ Rd w A (l.map bv) ∧ ∀ ad, A = some ad → S w ad
def AllB (S : World → Addr → Prop) (w : World) : List Value → List (List UInt8) → Prop
  | [], [] => True
  | v :: vs, r :: rs => IsB S w v r ∧ AllB S w vs rs
  | _, _ => False
section
variable {S S' : World → Addr → Prop} {w w' : World}
theorem IsB.imp_ {v : Value} {l : List UInt8} (hr : ∀ A xs, Rd w A xs → (∀ ad, A = some ad → S w ad) → Rd w' A xs) (hS : ∀ ad, S w ad → S' w' ad) (h : IsB S w v l) : IsB S' w' v l := by
  obtain ⟨A, n, c, h1, h2, h3, h4, h5, h6⟩ := h
  exact ⟨A, n, c, h1, h2, h3, h4, hr A _ h5 h6, fun ad e => hS ad (h6 ad e)⟩
theorem AllB.imp_ (hr : ∀ A xs, Rd w A xs → (∀ ad, A = some ad → S w ad) → Rd w' A xs) (hS : ∀ ad, S w ad → S' w' ad) : ∀ {vs : List Value} {rs : List (List UInt8)}, AllB S w vs rs → AllB S' w' vs rs
  | [], [], _ => trivial
  | v :: vs, r :: rs, h => ⟨h.1.imp_ hr hS, AllB.imp_ hr hS h.2⟩
  | [], r :: rs, h => h.elim
  | v :: vs, [], h => h.elim
theorem AllB.ext {vs : List Value} {rs : List (List UInt8)} (h : AllB S w vs rs) (hx : Ext w w') (hS : ∀ ad, S w ad → S w' ad) : AllB S w' vs rs :=
  h.imp_ (fun _ _ h _ => h.ext hx) hS
theorem AllB.extF {B : Nat} {T : TypeId} {vs : List Value} {rs : List (List UInt8)} (h : AllB (Fresh B T) w vs rs) (hx : Ext w w') : AllB (Fresh B T) w' vs rs := h.ext hx (Fresh.ext hx)
theorem AllB.extO {B : Nat} {vs : List Value} {rs : List (List UInt8)} (h : AllB (Old B) w vs rs) (hx : Ext w w') : AllB (Old B) w' vs rs := h.ext hx Old.ext
theorem AllB.len : ∀ {vs : List Value} {rs : List (List UInt8)}, AllB S w vs rs → vs.length = rs.length
  | [], [], _ => rfl
  | v :: vs, r :: rs, h => by simp [AllB.len h.2]
  | [], r :: rs, h => h.elim
  | v :: vs, [], h => h.elim
theorem AllB.snoc {v : Value} {r : List UInt8} (hv : IsB S w v r) : ∀ {vs : List Value} {rs : List (List UInt8)}, AllB S w vs rs → AllB S w (vs ++ [v]) (rs ++ [r])
  | [], [], _ => ⟨hv, trivial⟩
  | x :: vs, y :: rs, h => ⟨h.1, AllB.snoc hv h.2⟩
  | [], r :: rs, h => h.elim
  | v :: vs, [], h => h.elim
theorem AllB.get : ∀ {vs : List Value} {rs : List (List UInt8)}, AllB S w vs rs → ∀ k (h1 : k < vs.length) (h2 : k < rs.length), IsB S w vs[k] rs[k]
  | [], [], _, k, h1, _ => by simp at h1
  | v :: vs, r :: rs, h, 0, _, _ => h.1
  | v :: vs, r :: rs, h, k + 1, h1, h2 => AllB.get h.2 k (by simpa using h1) (by simpa using h2)
  | [], r :: rs, h, _, _, _ => h.elim
  | v :: vs, [], h, _, _, _ => h.elim
theorem AllB.take : ∀ {vs : List Value} {rs : List (List UInt8)} (k : Nat), AllB S w vs rs → AllB S w (vs.take k) (rs.take k)
  | [], [], k, _ => by simp [AllB]
  | v :: vs, r :: rs, 0, _ => by simp [AllB]
  | v :: vs, r :: rs, k + 1, h => ⟨h.1, AllB.take k h.2⟩
  | [], r :: rs, _, h => h.elim
  | v :: vs, [], _, h => h.elim
theorem AllB.one : ∀ {vs : List Value} {rs : List (List UInt8)}, AllB S w vs rs → ∀ u ∈ vs, u.oneCell' = true
  | [], _, _, u, hu => by simp at hu
  | v :: vs, r :: rs, h, u, hu => by
    rcases List.mem_cons.1 hu with rfl | hu
    · obtain ⟨A, n, c, rfl, _⟩ := h.1; rfl
    · exact AllB.one h.2 u hu
  | v :: vs, [], h, _, _ => h.elim
end

theorem run_equalIn_iface_int {P : Program} (w : World) (d : Nat) {ti tn : TypeId} {ms : Array (String × TypeId)} {i : TypeInfo} {k : IntKind} (a b : Int)
    (hi : P.underlying ti = some (.interface ms)) (hn : P.underlying tn = some (.int k)) (hinfo : P.info? tn = some i) (hcomp : i.comparable = true) :
    (Op.equalIn (d + 2) ti (.iface tn (.int k a)) (.iface tn (.int k b))).run P w = .ok (a == b) w := by
  simp [Op.equalIn, run_underlying hi, run_underlying hn, typeInfo, hinfo, hcomp]
theorem run_eql_iface_int {P : Program} (w : World) {ti tn : TypeId} {ms : Array (String × TypeId)} {i : TypeInfo} {k : IntKind} (a b : Int)
    (hi : P.underlying ti = some (.interface ms)) (hn : P.underlying tn = some (.int k)) (hinfo : P.info? tn = some i) (hcomp : i.comparable = true) :
    (binOp .eql ti (.iface tn (.int k a)) (.iface tn (.int k b))).run P w = .ok (.bool (a == b)) w := by
  simp only [binOp]
  simp [Op.equal, Op.maxDepth, run_equalIn_iface_int w 9998 a b hi hn hinfo hcomp]
theorem run_eql_iface_int' {P : Program} (w : World) {ti tn : TypeId} {ms : Array (String × TypeId)} {k : IntKind} (a b : Int)
    (hi : P.underlying ti = some (.interface ms)) (hn : P.underlying tn = some (.int k)) (hinfo : (P.info? tn).map (·.comparable) = some true) :
    (binOp .eql ti (.iface tn (.int k a)) (.iface tn (.int k b))).run P w = .ok (.bool (a == b)) w := by
  rcases hf : P.info? tn with _ | i
  · rw [hf] at hinfo; cases hinfo
  · rw [hf] at hinfo
    exact run_eql_iface_int w a b hi hn hf (by simpa using hinfo)
end Go.Cv
