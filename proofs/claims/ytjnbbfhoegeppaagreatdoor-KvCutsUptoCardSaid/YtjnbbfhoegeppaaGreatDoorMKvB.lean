/-
  Texts of the lemmas below the claim, put together: DvM KvB DvA DvB DvC DvD DvE DvF DvG DvN.
-/
import Derived.Test.YtjnbbfhoegeppaaGreatDoorMKvA
import Derived.Lib.AppendStr
import Derived.Deep.RegionLaw
import Derived.Test.YtjnbbfhoegeppaaGreatDoorSorts
import Derived.Sort.KeysCollected
import Derived.Sort.OwnSorted
section
/-
  The answer's disk in memory: its row, its list of files.
-/
set_option linter.unusedSimpArgs false
set_option linter.unusedVariables false
namespace Go.Proofs.YtjnbbfhoegeppaaGreatDoor
open Go.RowKit Go.Cv Go.Cv.Dk
/-! ### rows of structs -/
section
variable {w : World} {base : Nat} {e : TypeId} {s n c : Nat} {A : Option Addr} {xs : List Value}
theorem rd_own (h : w.ownsRow base e s (.slice A n c) n xs) : Rd w A xs := fun k v hv => by
  have hl := h.1
  have hk : k < xs.length := by
    rcases Nat.lt_or_ge k xs.length with h0 | h0
    · exact h0
    · rw [List.getElem?_eq_none h0] at hv; cases hv
  have hn : 0 < n := by
    rcases Nat.eq_zero_or_pos n with rfl | h1
    · rw [Nat.zero_mul] at hl; omega
    · exact h1
  obtain ⟨g, cap, hv2, _, hlt⟩ := h.form hn
  have hA : A = some ⟨g, 0, none⟩ := by injection hv2
  subst hA
  exact ⟨_, rfl, h.cells (g := g) rfl k v hv⟩
theorem own_pos (h : w.ownsRow base e s (.slice A n c) n xs) (hn : 0 < n) : ∃ g cs, A = some ⟨g, 0, none⟩ ∧ base ≤ g ∧ n ≤ c ∧ c ≤ maxLen ∧ Row w g e cs ∧ cs.length = c * s ∧ cs.take (n * s) = xs := by
  rcases h.2 with ⟨_, h0⟩ | ⟨g, cap, cur, hv, hb, hg, h1, h2, h3, h4⟩
  · omega
  · injection hv with e1 e2 e3
    subst e3
    exact ⟨g, cur.toList, e1, hb, h1, h2, by simpa [Row] using hg, by simpa using h3, h4⟩
theorem own_caps (h : w.ownsRow base e s (.slice A n c) n xs) : n ≤ c ∧ c ≤ maxLen := by
  rcases h.2 with ⟨h0, h1⟩ | ⟨g, cap, cur, hv, hb, hg, h1, h2, h3, h4⟩
  · injection h0 with _ e2 e3
    subst e3; subst h1
    exact ⟨Nat.le_refl _, Nat.zero_le _⟩
  · injection hv with e1 e2 e3
    subst e3
    exact ⟨h1, h2⟩
theorem own_set {g : Nat} (h : w.ownsRow base e s (.slice (some ⟨g, 0, none⟩) n c) n xs) (i : Nat) (v : Value) : (w.setCell ⟨g, i, none⟩ v).ownsRow base e s (.slice (some ⟨g, 0, none⟩) n c) n (xs.set i v) := by
  refine ⟨by rw [List.length_set]; exact h.1, ?_⟩
  rcases h.2 with ⟨h0, _⟩ | ⟨g', cap, cur, hv, hb, hg, h1, h2, h3, h4⟩
  · injection h0 with e1; cases e1
  · injection hv with e1 e2 e3
    injection e1 with e1
    injection e1 with e1
    subst e1; subst e3
    have hr : Row w g e cur.toList := by simpa [Row] using hg
    have hr2 := hr.set i v
    refine .inr ⟨g, c, (cur.toList.set i v).toArray, rfl, hb, hr2, h1, h2, by simpa using h3, ?_⟩
    rw [← h4]
    simp [List.take_set]
/-- The slice type t has elements of type e, of so many cells and bytes. -/
def RowS (P : Program) (t e : TypeId) (sz bytes : Nat) : Prop :=
  0 < sz ∧ P.underlying t = some (.slice e) ∧ ∃ z i, P.info? e = some i ∧ i.zero = some z ∧ i.size = sz ∧ i.bytes = bytes ∧ z.cells.size = sz
theorem RowS.of {P : Program} {t e : TypeId} {z : Value} {sz bytes : Nat} (h0 : 0 < sz) (ht : P.underlying t = some (.slice e)) (h : (P.info? e).map (fun i => (i.zero, i.size, i.bytes)) = some (some z, sz, bytes)) (hz : z.cells.size = sz) : RowS P t e sz bytes := by
  obtain ⟨i, h1, h2, h3, h4⟩ := info_parts h
  exact ⟨h0, ht, z, i, h1, h2, h3, h4, hz⟩
end
section
variable {P : Program} {w : World} {ops : Array Oper} {rest : List Oper} {o : Oper} {a : Act} {K : Act → World → Prop} {Q : Exit → Act → World → Prop}
/-- 'append(own row of structs, structs)'. -/
theorem wpList_appfam (hgd : o.guard = none) (s x : Operand) (t e : TypeId) (sz bytes : Nat)
    (ho : o.op = .call { callee := .builtin .append, args := #[s, x], argTypes := #[t, t] }) (hT : RowS P t e sz bytes)
    (base : Nat) (A : Option Addr) (n c : Nat) (xs : List Value) (hs : a.eval s = .slice A n c) (hown : w.ownsRow base e sz (.slice A n c) n xs)
    (ad : Addr) (m c2 : Nat) (news : List Value) (hx : a.eval x = .slice (some ad) m c2) (hl : news.length = m * sz) (hr : Rd w (some ad) news) (h1 : ∀ u ∈ news, u.oneCell' = true)
    (h63 : n + m ≤ maxLen) (hbytes : (n + m) * bytes ≤ 140737488355328) (hbase : base ≤ w.heap.size)
    (h : ∀ A' c' w', w'.ownsRow base e sz (.slice A' (n + m) c') (n + m) (xs ++ news) → Keep (rowOf A) w w' → (∀ x ∈ rowOf A', x ∈ rowOf A ∨ w.heap.size ≤ x) → wpList P ops Q rest (a.put o.dst (.slice A' (n + m) c')) w') : wpList P ops Q (o :: rest) a w := by
  obtain ⟨h0, ht, z, i, hi, hz, hsize, hby, hzs⟩ := hT
  refine wpList_append_own_at (P := P) w hgd s x t ho base e i z sz bytes ht hi hz hsize hby hzs h0 _ n xs hs hown ad m c2 news hx hl (fun j u hu => ?_) h1 h63 hbytes hbase fun v' w' h2 h3 h4 h5 => ?_
  · obtain ⟨ad', e1, hc⟩ := hr j u hu
    injection e1 with e1
    subst e1
    exact hc
  · have hf : ∃ A' c', v' = .slice A' (n + m) c' := by
      rcases h2.2 with ⟨e1, e2⟩ | ⟨g, cap, cur, e1, _⟩
      · exact ⟨none, 0, by rw [e1, e2]⟩
      · exact ⟨_, _, e1⟩
    obtain ⟨A', c', rfl⟩ := hf
    refine h A' c' w' h2 (Keep.grown h3 fun k ek => ?_) fun y hy => ?_
    · rcases A with _ | ad'
      · cases ek
      · simp [Value.ownBlock] at ek; simp [rowOf, ek]
    · have e1 : (Value.slice A' (n + m) c').ownBlock = some y := by
        rcases A' with _ | ad'
        · cases hy
        · simp [rowOf] at hy; simp [Value.ownBlock, hy]
      rw [e1] at h5
      rcases h5 with h5 | h5
      · left
        rcases A with _ | ad'
        · cases h5
        · simp [Value.ownBlock] at h5; simp [rowOf, h5]
      · right
        injection h5 with h5
        omega
end
/-! ### the list of files -/
structure EF where
  f : PF
  A : Option Addr
  c : Nat
def EF.nm (e : EF) : List UInt8 := e.f.nm
def ecells (e : EF) : List Value := [.string ⟨e.f.nm.toArray⟩, .slice e.A e.f.b.length e.c, .int .i64 (e.f.sy : Nat)]
theorem ecells_len (L : List EF) : (L.flatMap ecells).length = L.length * 3 := by
  induction L with
  | nil => rfl
  | cons e r ih => rw [List.flatMap_cons, List.length_append, ih, List.length_cons]; simp [ecells]; omega
theorem ecells_one (L : List EF) : ∀ u ∈ L.flatMap ecells, u.oneCell' = true := by
  intro u hu
  obtain ⟨e, _, he⟩ := List.mem_flatMap.1 hu
  simp only [ecells, List.mem_cons, List.not_mem_nil, or_false] at he
  rcases he with rfl | rfl | rfl <;> rfl
theorem ecells_at {l1 l2 : List EF} {e : EF} {j : Nat} (hj : j < 3) : ((l1 ++ e :: l2).flatMap ecells)[l1.length * 3 + j]? = (ecells e)[j]? := by
  rw [List.flatMap_append, List.flatMap_cons, List.getElem?_append_right (by rw [ecells_len]; omega), ecells_len, Nat.add_sub_cancel_left, List.getElem?_append_left (by simpa [ecells] using hj)]
theorem ecells_set {l1 l2 : List EF} {e : EF} {j : Nat} (hj : j < 3) (v : Value) : ((l1 ++ e :: l2).flatMap ecells).set (l1.length * 3 + j) v = l1.flatMap ecells ++ ((ecells e).set j v ++ l2.flatMap ecells) := by
  rw [List.flatMap_append, List.flatMap_cons, List.set_append_right _ _ (by rw [ecells_len]; omega), ecells_len, Nat.add_sub_cancel_left, List.set_append_left _ _ (by simpa [ecells] using hj)]
/-- The files' bytes. -/
structure EAt (w : World) (B : Nat) (e : EF) : Prop where
  rd : Rd w e.A (e.f.b.map bv)
  nc : e.f.b.length ≤ e.c
  ge : ∀ x ∈ rowOf e.A, B ≤ x ∧ x < w.heap.size
  len : e.f.b.length ≤ 140737488355328
theorem EAt.keep {w w' : World} {B : Nat} {e : EF} {bs : List Nat} (h : EAt w B e) (hk : Keep bs w w') (hb : ∀ x ∈ rowOf e.A, x ∉ bs) : EAt w' B e :=
  ⟨h.rd.keep hk fun ad ea => hb _ (by simp [rowOf, ea]), h.nc, fun x hx => ⟨(h.ge x hx).1, Nat.lt_of_lt_of_le (h.ge x hx).2 hk.size⟩, h.len⟩
theorem EAt.ext {w w' : World} {B : Nat} {e : EF} (h : EAt w B e) (hx : Ext w w') : EAt w' B e := h.keep (Keep.of_ext (bs := []) hx) (by simp)
def tfoot (T : Option Addr) (L : List EF) : List Nat := rowOf T ++ L.flatMap fun e => rowOf e.A
def rfoot (r : Nat) (T : Option Addr) (L : List EF) : List Nat := r :: tfoot T L
end Go.Proofs.YtjnbbfhoegeppaaGreatDoor
end
section
/-
  Walks of the store: numbers as bytes; a batch's record.
-/
set_option linter.unusedSimpArgs false
set_option linter.unusedVariables false
namespace Go.Proofs.YtjnbbfhoegeppaaGreatDoor
open Go.RowKit Go.Cv Go.Cv.Dk Go.Cv.Wal Go.Cv.Kv
theorem u8_shb (v : UInt64) (k : Nat) : u8 (n64 v / 2 ^ (8 * k)) = UInt8.ofNat (v.toNat / 256 ^ k) := by
  rw [← u8_of_nat]
  congr 1
  unfold n64
  rw [Int.natCast_ediv, Int.pow_mul]
  simp
theorem leN_snoc (k v : Nat) (xs : List UInt8) (x : UInt8) (h : x = UInt8.ofNat (v / 256 ^ k)) : (xs ++ leN k v) ++ [x] = xs ++ leN (k + 1) v := by rw [leN_succ, h, List.append_assoc]
section
variable {P : Program} {w : World} {ops : Array Oper} {rest : List Oper} {o : Oper} {a : Act} {K : Act → World → Prop} {Q : Exit → Act → World → Prop}
/-- 'append(own row of bytes, what is read)', the row's block followed. -/
theorem wpList_appS (hgd : o.guard = none) (s x : Operand) (t e : TypeId)
    (ho : o.op = .call { callee := .builtin .append, args := #[s, x], argTypes := #[t, t] }) (hT : RowT P t e 1)
    (base : Nat) (A : Option Addr) (n c : Nat) (xs : List UInt8) (hs : a.eval s = .slice A n c) (hown : w.ownsRow base e 1 (.slice A n c) n (xs.map bv))
    (B : Option Addr) (m d : Nat) (news : List UInt8) (hx : a.eval x = .slice B m d) (hm : news.length = m) (hr : Rd w B (news.map bv))
    (hbytes : n + m ≤ 140737488355328) (hbase : base ≤ w.heap.size)
    (h : ∀ A' c' w', w'.ownsRow base e 1 (.slice A' (n + m) c') (n + m) ((xs ++ news).map bv) → Stp (rowOf A) (rowOf A') w w' → wpList P ops Q rest (a.put o.dst (.slice A' (n + m) c')) w') : wpList P ops Q (o :: rest) a w :=
  wpList_appbo hgd s x t e ho hT base _ n xs hs hown B m d news hx hm hr hbytes hbase fun A' c' w' h1 h2 h3 h4 h5 => h A' c' w' h1 ⟨Keep.grown h5 fun k ek => by
    rcases A with _ | ad
    · cases ek
    · simp [Value.ownBlock] at ek; simp [rowOf, ek], fun y hy => by
    have e1 : (Value.slice A' (n + m) c').ownBlock = some y := by
      rcases A' with _ | ad'
      · cases hy
      · simp [rowOf] at hy; simp [Value.ownBlock, hy]
    rw [e1] at h4
    rcases h4 with h4 | h4
    · left
      rcases A with _ | ad'
      · cases h4
      · simp [Value.ownBlock] at h4; simp [rowOf, h4]
    · right
      injection h4 with h4
      omega⟩
/-- 'append(own row of bytes, a string's)': the row's block. -/
theorem append_str_blk {t u ty e : TypeId} {i : TypeInfo} {base n : Nat} {v v' : Value} {w' : World} {xs : List Value} {s : ByteArray} (ht : P.underlying t = some (.slice e)) (hu : P.underlying u = some .string) (hi : P.info? e = some i) (hz : i.zero = some (.int .u8 0))
    (hsize : i.size = 1) (hby : i.bytes = 1) (hown : w.ownsRow base e 1 v n xs) (h63 : n + s.size ≤ maxLen) (hbytes : n + s.size ≤ 140737488355328)
    (hr : (Builtin.append_ #[t, u] ty #[v, .string s]).run P w = .ok v' w') : v'.ownBlock = v.ownBlock ∨ v'.ownBlock = some w.heap.size := by
  have hsmall : n + s.size ≤ 9223372036854775807 := by simp only [maxLen] at h63; omega
  have hxl : xs.length = n := by simpa using hown.1
  rcases hown.2 with ⟨rfl, rfl⟩ | ⟨g, cap, cur, rfl, hbg, hg, hnc, hcm, hcs, htake⟩
  · by_cases hm : s.size = 0
    · have hf := Lib.run_firstCells_string (P := P) w 1 s
      rw [hm] at hf
      simp [Builtin.append_, run_underlying ht, run_underlying hu, sizeOf, typeInfo, hi, hsize, Builtin.lenOf, hm, hf] at hr
      rw [← hr.1]; exact .inl rfl
    · have h2 := run_append_nil_string (P := P) w t u ty e i (.int .u8 0) ht hu hi hz s (by omega) (by omega) (by rw [hby]; omega)
      rw [hr] at h2
      injection h2 with h2
      rw [h2]; exact .inr rfl
  · by_cases hroom : n + s.size ≤ cap
    · have hcs' : cur.size = cap := by simpa using hcs
      have h2 := Lib.run_append_room_string (P := P) w t u ty e i ht hu hi hsize g n cap cur hg s hroom (by omega)
      rw [hr] at h2
      injection h2 with h2
      rw [h2]; exact .inl rfl
    · have holds : ∀ j u, xs[j]? = some u → w.cell? ((⟨g, 0, none⟩ : Addr).add j) = some u := hown.cells (g := g) rfl
      have h2 := Lib.run_append_grow_string (P := P) w t u ty e i (.int .u8 0) ht hu hi hz ⟨g, 0, none⟩ n cap xs (by rw [hsize]; simpa using hxl) holds s (by omega) (by omega) (by rw [hby]; exact growslice_fits (by omega) (by omega))
      rw [hr] at h2
      injection h2 with h2
      rw [h2]; exact .inr rfl
theorem stp_rows {w w' : World} {A A' : Option Addr} {n n' c c' : Nat} (h5 : w.grownBy w' (Value.slice A n c).ownBlock) (h4 : (Value.slice A' n' c').ownBlock = (Value.slice A n c).ownBlock ∨ (Value.slice A' n' c').ownBlock = some w.heap.size) : Stp (rowOf A) (rowOf A') w w' :=
  ⟨Keep.grown h5 fun k ek => by
    rcases A with _ | ad
    · cases ek
    · simp [Value.ownBlock] at ek; simp [rowOf, ek], fun y hy => by
    have e1 : (Value.slice A' n' c').ownBlock = some y := by
      rcases A' with _ | ad'
      · cases hy
      · simp [rowOf] at hy; simp [Value.ownBlock, hy]
    rw [e1] at h4
    rcases h4 with h4 | h4
    · left
      rcases A with _ | ad'
      · cases h4
      · simp [Value.ownBlock] at h4; simp [rowOf, h4]
    · right
      injection h4 with h4
      omega⟩
theorem strCells_bv (s : ByteArray) : Lib.strCells s = s.data.toList.map bv := rfl
/-- 'append(own row of bytes, a string...)', the row's block followed. -/
theorem wpList_appstr (hgd : o.guard = none) (s x : Operand) (t u e : TypeId)
    (ho : o.op = .call { callee := .builtin .append, args := #[s, x], argTypes := #[t, u] }) (ht : P.underlying t = some (.slice e)) (hu : P.underlying u = some .string) (hi : (P.info? e).map (fun i => (i.zero, i.size, i.bytes)) = some (some (.int .u8 0), 1, 1))
    (base : Nat) (A : Option Addr) (n c : Nat) (xs : List UInt8) (hs : a.eval s = .slice A n c) (hown : w.ownsRow base e 1 (.slice A n c) n (xs.map bv))
    (k : ByteArray) (hx : a.eval x = .string k) (hbytes : n + k.size ≤ 140737488355328) (hbase : base ≤ w.heap.size)
    (h : ∀ A' c' w', w'.ownsRow base e 1 (.slice A' (n + k.size) c') (n + k.size) ((xs ++ k.data.toList).map bv) → Stp (rowOf A) (rowOf A') w w' → wpList P ops Q rest (a.put o.dst (.slice A' (n + k.size) c')) w') : wpList P ops Q (o :: rest) a w := by
  obtain ⟨i, hi, hz, hsz, hby⟩ := info_parts hi
  have h63 : n + k.size ≤ maxLen := by unfold maxLen; omega
  refine wpList_plain hgd fun K hK => ?_
  obtain ⟨v', w', hr, h2, h3, _⟩ := Lib.run_append_own_string (P := P) w base t u o.type e i ht hu hi hz hsz hby _ n _ hown k h63 hbytes hbase
  have hb := append_str_blk ht hu hi hz hsz hby hown h63 hbytes hr
  obtain ⟨A', c', rfl, _⟩ := own_form h2
  unfold Oper.wp execOp
  simp only [ho, resolve, invoke, builtin, Sem.run_bind, Sem.run_pure, Result.andThen_ok, List.map_toArray, List.map_cons, List.map_nil, hs, hx, hr]
  rw [strCells_bv, ← List.map_append] at h2
  exact hK _ _ (h A' c' w' h2 (stp_rows h3 hb))
end
/-- A row of one's own grew by these bytes. -/
def Grew (base : Nat) (w : World) (A : Option Addr) (xs : List UInt8) (e : Ending) (w' : World) : Prop :=
  ∃ A' c q, e = .returned (.slice A' q c) ∧ w'.ownsRow base 5 1 (.slice A' q c) q (xs.map bv) ∧ Stp (rowOf A) (rowOf A') w w'
theorem base_le {w : World} {base n c : Nat} {A : Option Addr} {xs : List Value} {e : TypeId} {s : Nat} (h : w.ownsRow base e s (.slice A n c) n xs) : ∀ x ∈ rowOf A, base ≤ x := fun x hx => (h.lt x (rowOf_own hx)).1
theorem row_lt {w : World} {base n c : Nat} {A : Option Addr} {xs : List Value} {e : TypeId} {s : Nat} (h : w.ownsRow base e s (.slice A n c) n xs) : ∀ x ∈ rowOf A, x < w.heap.size := fun x hx => (h.lt x (rowOf_own hx)).2
theorem own_q {w : World} {base n : Nat} {v : Value} {xs : List UInt8} {e : TypeId} (h : w.ownsRow base e 1 v n (xs.map bv)) : xs.length = n := by have := h.1; simpa using this
theorem q_app {w w' : World} {base base' n n' : Nat} {v v' : Value} {xs ys : List UInt8} {e e' : TypeId} (h : w.ownsRow base e 1 v n (xs.map bv)) (h' : w'.ownsRow base' e' 1 v' n' ((xs ++ ys).map bv)) : n' = n + ys.length := by
  rw [← own_q h, ← own_q h', List.length_append]
theorem rd_b (w : World) (b : UInt8) (z : Int) (T : TypeId) (h : n8 b = z) : Rd (w.alloc (.cells #[.int .u8 z] T)) (some ⟨w.heap.size, 0, none⟩) ([b].map bv) := by
  have := rd_new_one w (.int .u8 z) T
  rw [← h] at this ⊢
  exact this
set_option maxHeartbeats 1600000 in
theorem pnumb_any (base : Nat) (A : Option Addr) (n c : Nat) (xs : List UInt8) (v : UInt64) (m : Nat) (w : World) (ho : w.ownsRow base 5 1 (.slice A n c) n (xs.map bv)) (hb : base ≤ w.heap.size) (hm : m ≤ 8) (hn : n + m ≤ 140737488355328) :
    Calls Tryz.prog 64 #[.slice A n c, .int .u64 (n64 v), .int .i64 m] w (Grew base w A (xs ++ leN m v.toNat)) := by
  refine calls_hid fun G hG => ?_
  have hg : ∀ e w', Grew base w A (xs ++ leN m v.toNat) e w' → G e w' := fun e w' h1 => hG.out _ _ h1
  replace hg := Lib.hid hg
  clear hG
  go_enter Tryz.func64, Tryz.ntmps64
  go_wp2
  go_loopw [0, 7, 9] (fun t _ i wr => ∃ (k : Nat) (A' : Option Addr) (c' : Nat), k ≤ m ∧ i = .int .i64 k ∧ t = .slice A' (n + k) c' ∧ wr.ownsRow base 5 1 (.slice A' (n + k) c') (n + k) ((xs ++ leN k v.toNat).map bv) ∧ Hid (Stp (rowOf A) (rowOf A') w wr)) (fun _ _ i _ => m - (intOf i).toNat)
  case atStart => exact ⟨0, A, c, Nat.zero_le _, rfl, rfl, by simpa [leN] using ho, Lib.hid (Stp.refl _ _)⟩
  case round =>
    obtain ⟨k, A', c', hk, rfl, rfl, ho', hS⟩ := hrel
    by_cases hlt : k < m
    · have hk8 : k < 8 := by omega
      have hu := Lib.hid (u8_shb v k)
      have hb' : base ≤ wr.heap.size := Nat.le_trans hb hS.out.k.size
      go_wp2_with (at_builtin; (refine wpList_appS rfl (.tmp 12) (.tmp 18) 43 5 rfl u8rowD base _ (n + k) _ (xs ++ leN k v.toNat) rfl (own_ext ho' (ext_alloc _ _)) (some ⟨_, 0, none⟩) 1 1 [u8 (n64 v / 2 ^ (8 * k))] rfl rfl (rd_new_one _ _ _) (by omega) (Nat.le_trans hb' (by simp)) ?_; rw [leN_snoc k v.toNat xs _ hu.out]; intro A3 c3 w3 ho3 hS3))
      go_roundw
      case rel => exact ⟨k + 1, A3, c3, hlt, by go_num, rfl, ho3, Lib.hid (hS.out.trans (Stp.after (ext_alloc _ _) hS3))⟩
      case measure => simp [intOf]; omega
    · obtain rfl : k = m := by omega
      go_wp2
      exact hg.out _ _ ⟨A', c', _, rfl, ho', hS.out⟩
theorem u64_nat {m : Nat} (h : m < 18446744073709551616) : (u64 (m : Int)).toNat = m := by
  rw [u64_of_nat, UInt64.toNat_ofNat', Nat.mod_eq_of_lt (by omega)]
section
variable (base : Nat) (A : Option Addr) (n c : Nat) (xs : List UInt8) (k : Nat) (w : World) (ho : w.ownsRow base 5 1 (.slice A n c) n (xs.map bv)) (hb : base ≤ w.heap.size) (hk : k < 18446744073709551616)
include ho hb hk
theorem pnumb1 (hn : n + 1 ≤ 140737488355328) : Calls Tryz.prog 64 #[.slice A n c, .int .u64 (n64 (u64 (k : Int))), .int .i64 1] w (Grew base w A (xs ++ leN 1 k)) := by
  have := pnumb_any base A n c xs (u64 (k : Int)) 1 w ho hb (by omega) hn
  rwa [u64_nat hk] at this
theorem pnumb2 (hn : n + 2 ≤ 140737488355328) : Calls Tryz.prog 64 #[.slice A n c, .int .u64 (n64 (u64 (k : Int))), .int .i64 2] w (Grew base w A (xs ++ leN 2 k)) := by
  have := pnumb_any base A n c xs (u64 (k : Int)) 2 w ho hb (by omega) hn
  rwa [u64_nat hk] at this
theorem pnumb4 (hn : n + 4 ≤ 140737488355328) : Calls Tryz.prog 64 #[.slice A n c, .int .u64 (n64 (u64 (k : Int))), .int .i64 4] w (Grew base w A (xs ++ leN 4 k)) := by
  have := pnumb_any base A n c xs (u64 (k : Int)) 4 w ho hb (by omega) hn
  rwa [u64_nat hk] at this
theorem pnumb8 (hn : n + 8 ≤ 140737488355328) : Calls Tryz.prog 64 #[.slice A n c, .int .u64 (n64 (u64 (k : Int))), .int .i64 8] w (Grew base w A (xs ++ leN 8 k)) := by
  have := pnumb_any base A n c xs (u64 (k : Int)) 8 w ho hb (by omega) hn
  rwa [u64_nat hk] at this
end
end Go.Proofs.YtjnbbfhoegeppaaGreatDoor
end
section
/-
  Walks of the answer's disk: what is found, what is used, a step.
-/
set_option linter.unusedSimpArgs false
set_option linter.unusedVariables false
namespace Go.Proofs.YtjnbbfhoegeppaaGreatDoor
open Go.RowKit Go.Cv Go.Cv.Dk
/-- Where a name stands; -1: nowhere. -/
def fndi : List PF → List UInt8 → Int
  | [], _ => -1
  | f :: r, x => if f.nm = x then 0 else if fndi r x < 0 then -1 else fndi r x + 1
theorem fndi_at {l1 l2 : List PF} {f : PF} {x : List UInt8} (h1 : ∀ z ∈ l1, z.nm ≠ x) (hf : f.nm = x) : fndi (l1 ++ f :: l2) x = l1.length := by
  induction l1 with
  | nil => simp [fndi, hf]
  | cons y r ih =>
    have hy := h1 y (by simp)
    have h2 := ih fun z hz => h1 z (by simp [hz])
    simp only [List.cons_append, fndi, if_neg hy, h2, List.length_cons]
    rw [if_neg (by omega)]
    omega
theorem fndi_no {l : List PF} {x : List UInt8} (h : ∀ z ∈ l, z.nm ≠ x) : fndi l x = -1 := by
  induction l with
  | nil => rfl
  | cons y r ih =>
    simp only [fndi, if_neg (h y (by simp)), ih fun z hz => h z (by simp [hz])]
    rfl
theorem split_at {α : Type} {l : List α} {k : Nat} (h : k < l.length) : ∃ l1 x l2, l = l1 ++ x :: l2 ∧ l1.length = k ∧ l.take k = l1 ∧ l.take (k + 1) = l1 ++ [x] := by
  refine ⟨l.take k, l[k], l.drop (k + 1), ?_, ?_, rfl, List.take_succ_eq_append_getElem h⟩
  · rw [List.getElem_cons_drop, List.take_append_drop]
  · rw [List.length_take]; omega
theorem toArr (s : ByteArray) : (⟨s.data.toList.toArray⟩ : ByteArray) = s := rfl
end Go.Proofs.YtjnbbfhoegeppaaGreatDoor
end
section
/-
  Walks of the answer's disk: names, Cut, Read, a file laid, a file dropped.
-/
set_option linter.unusedSimpArgs false
set_option linter.unusedVariables false
namespace Go.Proofs.YtjnbbfhoegeppaaGreatDoor
open Go.RowKit Go.Cv Go.Cv.Dk
theorem ne46 (b : UInt8) : (b != 46) = decide (¬ n8 b = 46) := by
  have h : ∀ n : Fin 256, (UInt8.ofNat n.val != 46) = decide (¬ n8 (UInt8.ofNat n.val) = 46) := by decide +kernel
  have := h ⟨b.toNat, b.toNat_lt⟩
  simpa using this
/-- What is told of a name. -/
theorem get_fndi {l : List PF} {x : List UInt8} : (Dk.get l x = none ∧ fndi l x = -1 ∧ ∀ z ∈ l, z.nm ≠ x) ∨ ∃ l1 f l2, l = l1 ++ f :: l2 ∧ Dk.get l x = some f ∧ f.nm = x ∧ (∀ z ∈ l1, z.nm ≠ x) ∧ fndi l x = (l1.length : Nat) := by
  rcases hq : Dk.get l x with _ | f
  · exact .inl ⟨rfl, fndi_no (get_none hq), get_none hq⟩
  · obtain ⟨l1, l2, rfl, h1, rfl⟩ := ris_split hq
    exact .inr ⟨l1, f, l2, rfl, rfl, rfl, h1, fndi_at h1 rfl⟩
theorem map_split {α β : Type} {f : α → β} {L : List α} {l1 l2 : List β} {x : β} (h : L.map f = l1 ++ x :: l2) : ∃ m1 y m2, L = m1 ++ y :: m2 ∧ m1.map f = l1 ∧ f y = x ∧ m2.map f = l2 := by
  obtain ⟨m1, m2, rfl, h1, h2⟩ := List.map_eq_append_iff.1 h
  obtain ⟨y, m3, rfl, h3, h4⟩ := List.map_eq_cons_iff.1 h2
  exact ⟨m1, y, m3, rfl, h1, h3, h4⟩
end Go.Proofs.YtjnbbfhoegeppaaGreatDoor
end
section
/-
  Walks of the answer's disk: a file is laid, a file is dropped.
-/
set_option linter.unusedSimpArgs false
set_option linter.unusedVariables false
namespace Go.Proofs.YtjnbbfhoegeppaaGreatDoor
open Go.RowKit Go.Cv Go.Cv.Dk
theorem bl_eq : ∀ x y : List UInt8, Op.bytesLess x y = bytesBefore x y
  | [], [] => rfl
  | [], _ :: _ => rfl
  | _ :: _, [] => rfl
  | a :: x, b :: y => by rw [Op.bytesLess, bytesBefore, bl_eq x y]
def anyb (x : List UInt8) (l : List EF) : Bool := l.any fun y => bytesBefore x y.f.nm
def lst (e : EF) (l : List EF) : List EF := if anyb e.f.nm l then ins EF.nm e l else l
theorem ins_any {e : EF} : ∀ {l : List EF}, anyb e.f.nm l = true → ∀ r, ins EF.nm e (l ++ r) = ins EF.nm e l ++ r
  | [], h, _ => by simp [anyb] at h
  | y :: l, h, r => by
    simp only [List.cons_append, ins]
    by_cases hb : bytesBefore (EF.nm e) (EF.nm y) = true
    · rw [if_pos hb, if_pos hb]; rfl
    · rw [if_neg hb, if_neg hb, ins_any (l := l) (by
        unfold anyb at h ⊢
        rw [List.any_cons] at h
        have : bytesBefore e.f.nm y.f.nm = false := by simpa [EF.nm] using hb
        simpa [this] using h) r]
      rfl
theorem ins_none {e : EF} : ∀ {l : List EF}, anyb e.f.nm l = false → ∀ r, ins EF.nm e (l ++ r) = l ++ ins EF.nm e r
  | [], _, _ => rfl
  | y :: l, h, r => by
    unfold anyb at h
    rw [List.any_cons, Bool.or_eq_false_iff] at h
    simp only [List.cons_append, ins]
    rw [if_neg (by simpa [EF.nm] using h.1), ins_none (l := l) h.2 r]
theorem lst_snoc (e y : EF) (l : List EF) : anyb e.f.nm (l ++ [y]) = (anyb e.f.nm l || bytesBefore e.f.nm y.f.nm) ∧
    lst e (l ++ [y]) = if anyb e.f.nm l then lst e l ++ [y] else if bytesBefore e.f.nm y.f.nm then l ++ [e] ++ [y] else l ++ [y] := by
  have h1 : anyb e.f.nm (l ++ [y]) = (anyb e.f.nm l || bytesBefore e.f.nm y.f.nm) := by simp [anyb]
  refine ⟨h1, ?_⟩
  unfold lst
  rw [h1]
  rcases ha : anyb e.f.nm l with _ | _
  · rcases hb : bytesBefore e.f.nm y.f.nm with _ | _
    · simp
    · simp only [Bool.or_true, if_true, Bool.false_eq_true, if_false]
      rw [ins_none ha]
      simp [ins, EF.nm, hb]
  · simp only [Bool.true_or, if_true]
    exact ins_any ha _
theorem lst_end (e : EF) (l : List EF) : ins EF.nm e l = if anyb e.f.nm l then lst e l else lst e l ++ [e] := by
  unfold lst
  rcases ha : anyb e.f.nm l with _ | _
  · simp only [Bool.false_eq_true, if_false]
    have := ins_none ha []
    rw [List.append_nil] at this
    exact this
  · simp
theorem rd_list (w : World) (xs : List Value) (t : TypeId) : Rd (w.alloc (.cells xs.toArray t)) (some ⟨w.heap.size, 0, none⟩) xs := Rd.of_cells fun j u hu => by
  have hj : j < xs.length := by
    rcases Nat.lt_or_ge j xs.length with h | h
    · exact h
    · rw [List.getElem?_eq_none h] at hu; cases hu
  have e : (⟨w.heap.size, 0, none⟩ : Addr).add j = ⟨w.heap.size, j, none⟩ := by unfold Addr.add; split <;> simp_all
  rw [e, (Row.alloc w xs t).cell hj]
  rw [List.getElem?_eq_getElem hj] at hu
  exact hu
theorem one_cells (e : EF) : ∀ u ∈ ecells e, u.oneCell' = true := fun u hu => ecells_one [e] u (by simpa using hu)
theorem ext_app {W a b c : World} {base m cc : Nat} {ty : TypeId} {sz : Nat} {T : Option Addr} {xs : List Value} (h : Ext W a) (ho : a.ownsRow base ty sz (.slice T m cc) m xs) (hb : W.heap.size ≤ base) (hx : Ext a b) (hk : Keep (rowOf T) b c) : Ext W c := by
  have h2 := h.trans hx
  refine ⟨hk.os.trans h2.os, hk.tape.trans h2.tape, hk.output.trans h2.output, Nat.le_trans h2.size hk.size, fun k hlt => ?_⟩
  rw [hk.keep k (Nat.lt_of_lt_of_le hlt h2.size) fun hm => ?_]
  · exact h2.block k hlt
  · have := (ho.lt k (rowOf_own hm)).1
    omega
theorem len_snoc {α : Type} {l : List α} {y : α} {m : Nat} (h : l.length = m) : (l ++ [y]).length = m + 1 := by rw [List.length_append, h]; rfl
theorem meas {n k : Nat} (h : k < n) : n - (intOf (Value.int .i64 ((k : Int) + 1))).toNat < n - (intOf (Value.int .i64 (k : Int))).toNat := by simp [intOf]; omega
def eagg (e : EF) : Value := .agg #[.string ⟨e.f.nm.toArray⟩, .slice e.A e.f.b.length e.c, .int .i64 (e.f.sy : Nat)]
theorem cut_some (t i m : Nat) : ∃ ad, cutA (some ⟨t, 0, none⟩) i m 3 = some ad := by
  unfold cutA
  split
  · exact ⟨_, rfl⟩
  · exact ⟨_, rfl⟩
theorem rd_cut {w : World} {t m : Nat} {l1 l2 : List EF} (h : Rd w (some ⟨t, 0, none⟩) ((l1 ++ l2).flatMap ecells)) (hm : (l1 ++ l2).length ≤ m) : Rd w (cutA (some ⟨t, 0, none⟩) l1.length m 3) (l2.flatMap ecells) := by
  unfold cutA
  split
  · rename_i e
    have : l2 = [] := by
      rw [List.length_append] at hm
      exact List.eq_nil_of_length_eq_zero (by omega)
    subst this
    exact Rd.nil_
  · have := h.drop (l1.length * 3)
    rw [List.flatMap_append, List.drop_append_of_le_length (by rw [ecells_len]; omega), List.drop_of_length_le (by rw [ecells_len]; omega), List.nil_append] at this
    exact this
end Go.Proofs.YtjnbbfhoegeppaaGreatDoor
end
section
/-
  Walks of the answer's disk: sync, cut short, away.
-/
set_option linter.unusedSimpArgs false
set_option linter.unusedVariables false
namespace Go.Proofs.YtjnbbfhoegeppaaGreatDoor
open Go.RowKit Go.Cv Go.Cv.Dk
theorem upd_E {S : DS} {l1 l2 : List EF} {e e' : EF} {x : List UInt8} {g : PF → PF} (hl : S.l = (l1 ++ e :: l2).map EF.f) (h1 : ∀ z ∈ l1, z.f.nm ≠ x) (h2 : ∀ z ∈ l2, z.f.nm ≠ x) (hn : e.f.nm = x) (hg : g e.f = e'.f) : Dk.upd S.l x g = (l1 ++ e' :: l2).map EF.f := by
  rw [hl, List.map_append, List.map_cons, upd_split g (fun z hz => by obtain ⟨y, hy, rfl⟩ := List.mem_map.1 hz; exact h1 y hy) (fun z hz => by obtain ⟨y, hy, rfl⟩ := List.mem_map.1 hz; exact h2 y hy) hn, hg, List.map_append, List.map_cons]
theorem ok_E {S : DS} (h : S.Ok) {l1 l2 : List EF} {e e' : EF} (hl : S.l = (l1 ++ e :: l2).map EF.f) (hn : e'.f.nm = e.f.nm) (hs : e'.f.sy ≤ e'.f.b.length) (hu : (used (l1.map EF.f) : Int) + e'.f.b.length + used (l2.map EF.f) ≤ S.room) : DS.Ok { S with l := (l1 ++ e' :: l2).map EF.f } := by
  have := ok_upd (f' := e'.f) h (l1 := l1.map EF.f) (l2 := l2.map EF.f) (f := e.f) (by rw [hl]; simp) hn hs hu
  simpa using this
theorem stp_r {w w' : World} {r : Nat} {T : Option Addr} {L : List EF} (hk : Keep [r] w w') : Stp (rfoot r T L) (rfoot r T L) w w' := ⟨hk.mono (fun x hx => by rw [List.mem_singleton.1 hx]; simp [rfoot]), fun _ hx => .inl hx⟩
theorem used_E {S : DS} (h : S.Ok) {l1 l2 : List EF} {e : EF} (hl : S.l = (l1 ++ e :: l2).map EF.f) : (used (l1.map EF.f) : Int) + e.f.b.length + used (l2.map EF.f) ≤ S.room := by
  have := h.u
  rw [hl, List.map_append, used_app, List.map_cons, used_cons] at this
  omega
end Go.Proofs.YtjnbbfhoegeppaaGreatDoor
end
section
/-
  Walks of the answer's disk: append.
-/
set_option linter.unusedSimpArgs false
set_option linter.unusedVariables false
namespace Go.Proofs.YtjnbbfhoegeppaaGreatDoor
open Go.RowKit Go.Cv Go.Cv.Dk
theorem step_appbo {P : Program} {w : World} {ops : Array Oper} {o : Oper} {a : Act} {K : Act → World → Prop} {Q : Exit → Act → World → Prop} {E : Prop} (hgd : o.guard = none) (s x : Operand) (t e : TypeId)
    (ho : o.op = .call { callee := .builtin .append, args := #[s, x], argTypes := #[t, t] }) (hT : RowT P t e 1)
    (base : Nat) (v : Value) (n : Nat) (xs : List UInt8) (hs : a.eval s = v) (hown : w.ownsRow base e 1 v n (xs.map bv))
    (A : Option Addr) (m c : Nat) (news : List UInt8) (hx : a.eval x = .slice A m c) (hm : news.length = m) (hr : Rd w A (news.map bv))
    (hbytes : n + m ≤ 140737488355328) (hbase : base ≤ w.heap.size)
    (h : ∀ A' c' w', w'.ownsRow base e 1 (.slice A' (n + m) c') (n + m) ((xs ++ news).map bv) → n + m ≤ c' → w.grownBy w' v.ownBlock → K (a.put o.dst (.slice A' (n + m) c')) w') :
    if Region.wanted o (yielded ops a.tmps) = true then Oper.wp P o a w K Q else E := by
  have hw : Region.wanted o (yielded ops a.tmps) = true := by simp [Region.wanted, hgd]
  rw [if_pos hw]
  obtain ⟨ht, z, i, hi, hz, hsize, hby, hzs⟩ := hT
  refine wp_append_rd w s x t ho base e i z 1 ht hi hz hsize hby hzs v n _ hs hown A m c _ hx (by simpa using hm) hr (one_map_bv _) (by unfold maxLen; omega) (by omega) hbase fun v' w' h2 h3 h4 => ?_
  obtain ⟨A', c', rfl, hc, hcm, hr', _⟩ := own_form h2
  rw [← List.map_append] at h2
  exact h A' c' w' h2 hc h3
/-- A name and no bytes. -/
def e0 (x : List UInt8) : EF := ⟨⟨x, [], 0⟩, none, 0⟩
theorem used_ins (x : List UInt8) (l : List PF) : used (ins PF.nm ⟨x, [], 0⟩ l) = used l := by
  obtain ⟨m1, m2, e1, e2⟩ := ins_split PF.nm (⟨x, [], 0⟩ : PF) l
  rw [e2, e1, used_app, used_cons, used_app]
  show used m1 + (0 + used m2) = _
  omega
theorem app_ok_ {S : DS} {x b : List UInt8} (hx : nameOk x = true) (ho : S.off = false) (hr : (b.length : Int) ≤ S.room - used S.l) :
    app wrap64 S x b = (if (stepd S wrap64).1 then 0 else 11, { (stepd S wrap64).2 with l := Dk.upd (may S.l x) x fun f => { f with b := f.b ++ b } }) := by
  unfold app; rw [if_neg (by rw [hx]; simp), if_neg (by rw [ho]; simp), if_neg (by omega)]
theorem ok_ins {S : DS} (h : S.Ok) {x : List UInt8} (hx : nameOk x = true) (hno : ∀ f ∈ S.l, f.nm ≠ x) : DS.Ok { S with l := ins PF.nm ⟨x, [], 0⟩ S.l } := by
  have hm := ins_mem PF.nm (⟨x, [], 0⟩ : PF) S.l
  refine ⟨h.r0, h.r1, h.b0, h.b1, ?_, fun z hz => ?_, fun z hz => ?_, h.ris.ins hno⟩
  · obtain ⟨m1, m2, e1, e2⟩ := ins_split PF.nm (⟨x, [], 0⟩ : PF) S.l
    have := h.u
    rw [e1, used_app] at this
    show (used (ins PF.nm (⟨x, [], 0⟩ : PF) S.l) : Int) ≤ S.room
    rw [e2, used_app, used_cons]
    show ((used m1 + (0 + used m2) : Nat) : Int) ≤ S.room
    omega
  · rcases (hm z).1 hz with rfl | hz
    · exact hx
    · exact h.nm z hz
  · rcases (hm z).1 hz with rfl | hz
    · exact Nat.le_refl _
    · exact h.sy z hz
end Go.Proofs.YtjnbbfhoegeppaaGreatDoor
end
section
/-
  Walks of the answer's disk: another name.
-/
set_option linter.unusedSimpArgs false
set_option linter.unusedVariables false
namespace Go.Proofs.YtjnbbfhoegeppaaGreatDoor
open Go.RowKit Go.Cv Go.Cv.Dk
theorem split_del {S : DS} {l1 l2 : List EF} {e : EF} {x : List UInt8} (hl : S.l = (l1 ++ e :: l2).map EF.f) (h1 : ∀ z ∈ l1, z.f.nm ≠ x) (h2 : ∀ z ∈ l2, z.f.nm ≠ x) (hn : e.f.nm = x) : Dk.del S.l x = (l1 ++ l2).map EF.f := by
  rw [hl, List.map_append, List.map_cons, del_split (fun z hz => by obtain ⟨y, hy, rfl⟩ := List.mem_map.1 hz; exact h1 y hy) (fun z hz => by obtain ⟨y, hy, rfl⟩ := List.mem_map.1 hz; exact h2 y hy) hn, List.map_append]
theorem del_no {l : List PF} {x : List UInt8} (h : ∀ z ∈ l, z.nm ≠ x) : Dk.del l x = l := filter_all_ fun z hz => by simpa using h z hz
/-- The name's block, drawn. -/
theorem box_cells {w w' : World} {e : EF} {r : Nat} {b : Nat} {ty : TypeId} (h : Row w b ty (ecells e)) (hk : Keep [r] w w') (hb : b ≠ r) : Row w' b ty (ecells e) := h.keep hk (by simpa using hb)
theorem stp_box {w w3 : World} {F cs : List Nat} (h : Stp F cs w w3) {p : Addr} (hp : w.heap.size ≤ p.block) (v : Value) : Stp F cs w (w3.setCell p v) :=
  ⟨h.k.trans (Keep.setCell w3 p v) fun x hx => .inr (by rw [List.mem_singleton.1 hx]; exact hp), h.n⟩
end Go.Proofs.YtjnbbfhoegeppaaGreatDoor
end
section
/-
  Walks of the answer's disk: the power comes.
-/
set_option linter.unusedSimpArgs false
set_option linter.unusedVariables false
namespace Go.Proofs.YtjnbbfhoegeppaaGreatDoor
open Go.RowKit Go.Cv Go.Cv.Dk
def cutE (keep : Int) (e : EF) : EF := ⟨cutf keep e.f, e.A, e.c⟩
def Lk (keep : Int) (L : List EF) (k : Nat) : List EF := (L.take k).map (cutE keep) ++ L.drop k
theorem lk_at {keep : Int} {L : List EF} {k : Nat} (h : k < L.length) : ∃ l1 e l2, Lk keep L k = l1 ++ e :: l2 ∧ Lk keep L (k + 1) = l1 ++ cutE keep e :: l2 ∧ l1.length = k := by
  refine ⟨(L.take k).map (cutE keep), L[k], L.drop (k + 1), ?_, ?_, by rw [List.length_map, List.length_take]; omega⟩
  · unfold Lk
    rw [List.drop_eq_getElem_cons h]
  · unfold Lk
    rw [List.take_succ_eq_append_getElem h, List.map_append]
    simp
theorem lk_len (keep : Int) (L : List EF) (k : Nat) : (Lk keep L k).length = L.length := by
  unfold Lk
  rw [List.length_append, List.length_map, List.length_take, List.length_drop]
  omega
theorem lk_end (keep : Int) (L : List EF) : (Lk keep L L.length).map EF.f = (L.map EF.f).map (cutf keep) := by
  unfold Lk
  rw [List.take_length, List.drop_length, List.append_nil, List.map_map, List.map_map]
  rfl
end Go.Proofs.YtjnbbfhoegeppaaGreatDoor
end
section
/-
  Walks of the disk: its names.
-/
set_option linter.unusedSimpArgs false
set_option linter.unusedVariables false
namespace Go.Proofs.YtjnbbfhoegeppaaGreatDoor
open Go.RowKit Go.Cv Go.Cv.Dk
/-- The names met. -/
def Met (L : List GF) (left : Lit → Bool) (ss : List (List UInt8)) : Prop := ss.Perm ((L.filter fun g => !left (.string g.f.nm)).map fun g => g.f.nm)
theorem Met.start {L : List GF} {left : Lit → Bool} (h : ∀ g ∈ L, left (.string g.f.nm) = true) : Met L left [] := by
  unfold Met
  rw [List.filter_eq_nil_iff.2 (fun g hg => by rw [h g hg]; simp)]
  exact List.Perm.refl _
theorem Met.step {l1 l2 : List GF} {g : GF} {left : Lit → Bool} {ss : List (List UInt8)} (h : Met (l1 ++ g :: l2) left ss) (h1 : ∀ z ∈ l1, z.f.nm ≠ g.f.nm) (h2 : ∀ z ∈ l2, z.f.nm ≠ g.f.nm) (hl : left (.string g.f.nm) = true) :
    Met (l1 ++ g :: l2) (fun z => left z && !z.sameKey (.string g.f.nm)) (ss ++ [g.f.nm]) := by
  have e : ∀ l : List GF, (∀ z ∈ l, z.f.nm ≠ g.f.nm) → (l.filter fun z => !(left (.string z.f.nm) && !(Lit.string z.f.nm).sameKey (.string g.f.nm))) = l.filter fun z => !left (.string z.f.nm) := fun l hl => List.filter_congr fun z hz => by
    have : (Lit.string z.f.nm).sameKey (.string g.f.nm) = false := by simpa [Lit.sameKey] using hl z hz
    rw [this]; simp
  unfold Met at h ⊢
  rw [List.filter_append, List.filter_cons_of_neg (by simp [hl])] at h
  rw [List.filter_append, List.filter_cons_of_pos (by simp [Lit.sameKey]), e l1 h1, e l2 h2, List.map_append, List.map_cons]
  rw [List.map_append] at h
  exact (h.append_right [g.f.nm]).trans ((List.append_assoc _ _ _ ▸ (List.perm_append_comm.append_left _)) |> fun p => p)
theorem Met.len {L : List GF} {left : Lit → Bool} {ss : List (List UInt8)} (h : Met L left ss) : ss.length ≤ L.length := by
  rw [h.length_eq, List.length_map]
  exact List.length_filter_le _ _
theorem Met.all {L : List GF} {left : Lit → Bool} {ss : List (List UInt8)} (h : Met L left ss) (hl : ∀ g ∈ L, left (.string g.f.nm) = false) : ss.Perm (L.map fun g => g.f.nm) := by
  unfold Met at h
  rwa [filter_all_ (fun g hg => by rw [hl g hg]; rfl)] at h
theorem ris_sorted {L : List GF} (h : Ris GF.nm L) : (L.map fun g => g.f.nm).mergeSort (fun x y => decide (x ≤ y)) = L.map fun g => g.f.nm := by
  refine List.mergeSort_of_pairwise (List.pairwise_map.2 (List.Pairwise.imp (fun {a b} hab => ?_) h))
  have h1 : Op.bytesLess a.f.nm b.f.nm = true := by rw [bl_eq]; exact hab
  rw [bytesLess_eq] at h1
  exact decide_eq_true (List.le_of_lt (of_decide_eq_true h1))
theorem stringRow : RowS Tryz.prog 57 9 1 16 := RowS.of (z := .string ⟨#[]⟩) (by omega) Tryz.underlying57 (by kernel_rfl) rfl
end Go.Proofs.YtjnbbfhoegeppaaGreatDoor
end
