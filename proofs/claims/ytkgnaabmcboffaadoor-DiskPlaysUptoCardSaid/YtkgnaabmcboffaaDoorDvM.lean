/-
  The answer's disk in memory: its row, its list of files.
-/
import Derived.Test.YtkgnaabmcboffaaDoorDkR
set_option linter.unusedSimpArgs false
set_option linter.unusedVariables false
namespace Go.Proofs.YtkgnaabmcboffaaDoor
open Go.RowKit Go.Cv Go.Cv.Dk
/-! ### rows of structs -/
section
variable {w : World} {base : Nat} {e : TypeId} {s n c : Nat} {A : Option Addr} {xs : List Value}
theorem rd_own (h : w.ownsRow base e s (.slice A n c) n xs) : Rd w A xs := fun k v hv => by
  have hl := h.1
  have hk : k < xs.length := by
    rcases Nat.lt_or_ge k xs.length with h0 | h0
    · exact h0
    · rw [List.getElem?_eq_none h0] at hv; cases hv
  have hn : 0 < n := by
    rcases Nat.eq_zero_or_pos n with rfl | h1
    · rw [Nat.zero_mul] at hl; omega
    · exact h1
  obtain ⟨g, cap, hv2, _, hlt⟩ := h.form hn
  have hA : A = some ⟨g, 0, none⟩ := by injection hv2
  subst hA
  exact ⟨_, rfl, h.cells (g := g) rfl k v hv⟩
theorem own_pos (h : w.ownsRow base e s (.slice A n c) n xs) (hn : 0 < n) : ∃ g cs, A = some ⟨g, 0, none⟩ ∧ base ≤ g ∧ n ≤ c ∧ c ≤ maxLen ∧ Row w g e cs ∧ cs.length = c * s ∧ cs.take (n * s) = xs := by
  rcases h.2 with ⟨_, h0⟩ | ⟨g, cap, cur, hv, hb, hg, h1, h2, h3, h4⟩
  · omega
  · injection hv with e1 e2 e3
    subst e3
    exact ⟨g, cur.toList, e1, hb, h1, h2, by simpa [Row] using hg, by simpa using h3, h4⟩
theorem own_caps (h : w.ownsRow base e s (.slice A n c) n xs) : n ≤ c ∧ c ≤ maxLen := by
  rcases h.2 with ⟨h0, h1⟩ | ⟨g, cap, cur, hv, hb, hg, h1, h2, h3, h4⟩
  · injection h0 with _ e2 e3
    subst e3; subst h1
    exact ⟨Nat.le_refl _, Nat.zero_le _⟩
  · injection hv with e1 e2 e3
    subst e3
    exact ⟨h1, h2⟩
theorem own_set {g : Nat} (h : w.ownsRow base e s (.slice (some ⟨g, 0, none⟩) n c) n xs) (i : Nat) (v : Value) : (w.setCell ⟨g, i, none⟩ v).ownsRow base e s (.slice (some ⟨g, 0, none⟩) n c) n (xs.set i v) := by
  refine ⟨by rw [List.length_set]; exact h.1, ?_⟩
  rcases h.2 with ⟨h0, _⟩ | ⟨g', cap, cur, hv, hb, hg, h1, h2, h3, h4⟩
  · injection h0 with e1; cases e1
  · injection hv with e1 e2 e3
    injection e1 with e1
    injection e1 with e1
    subst e1; subst e3
    have hr : Row w g e cur.toList := by simpa [Row] using hg
    have hr2 := hr.set i v
    refine .inr ⟨g, c, (cur.toList.set i v).toArray, rfl, hb, hr2, h1, h2, by simpa using h3, ?_⟩
    rw [← h4]
    simp [List.take_set]
/-- The slice type t has elements of type e, of so many cells and bytes. -/
def RowS (P : Program) (t e : TypeId) (sz bytes : Nat) : Prop :=
  0 < sz ∧ P.underlying t = some (.slice e) ∧ ∃ z i, P.info? e = some i ∧ i.zero = some z ∧ i.size = sz ∧ i.bytes = bytes ∧ z.cells.size = sz
theorem RowS.of {P : Program} {t e : TypeId} {z : Value} {sz bytes : Nat} (h0 : 0 < sz) (ht : P.underlying t = some (.slice e)) (h : (P.info? e).map (fun i => (i.zero, i.size, i.bytes)) = some (some z, sz, bytes)) (hz : z.cells.size = sz) : RowS P t e sz bytes := by
  obtain ⟨i, h1, h2, h3, h4⟩ := info_parts h
  exact ⟨h0, ht, z, i, h1, h2, h3, h4, hz⟩
end
section
variable {P : Program} {w : World} {ops : Array Oper} {rest : List Oper} {o : Oper} {a : Act} {K : Act → World → Prop} {Q : Exit → Act → World → Prop}
/-- 'append(own row of structs, structs)'. -/
theorem wpList_appfam (hgd : o.guard = none) (s x : Operand) (t e : TypeId) (sz bytes : Nat)
    (ho : o.op = .call { callee := .builtin .append, args := #[s, x], argTypes := #[t, t] }) (hT : RowS P t e sz bytes)
    (base : Nat) (A : Option Addr) (n c : Nat) (xs : List Value) (hs : a.eval s = .slice A n c) (hown : w.ownsRow base e sz (.slice A n c) n xs)
    (ad : Addr) (m c2 : Nat) (news : List Value) (hx : a.eval x = .slice (some ad) m c2) (hl : news.length = m * sz) (hr : Rd w (some ad) news) (h1 : ∀ u ∈ news, u.oneCell' = true)
    (h63 : n + m ≤ maxLen) (hbytes : (n + m) * bytes ≤ 140737488355328) (hbase : base ≤ w.heap.size)
    (h : ∀ A' c' w', w'.ownsRow base e sz (.slice A' (n + m) c') (n + m) (xs ++ news) → Keep (rowOf A) w w' → (∀ x ∈ rowOf A', x ∈ rowOf A ∨ w.heap.size ≤ x) → wpList P ops Q rest (a.put o.dst (.slice A' (n + m) c')) w') : wpList P ops Q (o :: rest) a w := by
  obtain ⟨h0, ht, z, i, hi, hz, hsize, hby, hzs⟩ := hT
  refine wpList_append_own_at (P := P) w hgd s x t ho base e i z sz bytes ht hi hz hsize hby hzs h0 _ n xs hs hown ad m c2 news hx hl (fun j u hu => ?_) h1 h63 hbytes hbase fun v' w' h2 h3 h4 h5 => ?_
  · obtain ⟨ad', e1, hc⟩ := hr j u hu
    injection e1 with e1
    subst e1
    exact hc
  · have hf : ∃ A' c', v' = .slice A' (n + m) c' := by
      rcases h2.2 with ⟨e1, e2⟩ | ⟨g, cap, cur, e1, _⟩
      · exact ⟨none, 0, by rw [e1, e2]⟩
      · exact ⟨_, _, e1⟩
    obtain ⟨A', c', rfl⟩ := hf
    refine h A' c' w' h2 (Keep.grown h3 fun k ek => ?_) fun y hy => ?_
    · rcases A with _ | ad'
      · cases ek
      · simp [Value.ownBlock] at ek; simp [rowOf, ek]
    · have e1 : (Value.slice A' (n + m) c').ownBlock = some y := by
        rcases A' with _ | ad'
        · cases hy
        · simp [rowOf] at hy; simp [Value.ownBlock, hy]
      rw [e1] at h5
      rcases h5 with h5 | h5
      · left
        rcases A with _ | ad'
        · cases h5
        · simp [Value.ownBlock] at h5; simp [rowOf, h5]
      · right
        injection h5 with h5
        omega
end
/-! ### the list of files -/
structure EF where
  f : PF
  A : Option Addr
  c : Nat
def EF.nm (e : EF) : List UInt8 := e.f.nm
def ecells (e : EF) : List Value := [.string ⟨e.f.nm.toArray⟩, .slice e.A e.f.b.length e.c, .int .i64 (e.f.sy : Nat)]
theorem ecells_len (L : List EF) : (L.flatMap ecells).length = L.length * 3 := by
  induction L with
  | nil => rfl
  | cons e r ih => rw [List.flatMap_cons, List.length_append, ih, List.length_cons]; simp [ecells]; omega
theorem ecells_one (L : List EF) : ∀ u ∈ L.flatMap ecells, u.oneCell' = true := by
  intro u hu
  obtain ⟨e, _, he⟩ := List.mem_flatMap.1 hu
  simp only [ecells, List.mem_cons, List.not_mem_nil, or_false] at he
  rcases he with rfl | rfl | rfl <;> rfl
theorem ecells_at {l1 l2 : List EF} {e : EF} {j : Nat} (hj : j < 3) : ((l1 ++ e :: l2).flatMap ecells)[l1.length * 3 + j]? = (ecells e)[j]? := by
  rw [List.flatMap_append, List.flatMap_cons, List.getElem?_append_right (by rw [ecells_len]; omega), ecells_len, Nat.add_sub_cancel_left, List.getElem?_append_left (by simpa [ecells] using hj)]
theorem ecells_set {l1 l2 : List EF} {e : EF} {j : Nat} (hj : j < 3) (v : Value) : ((l1 ++ e :: l2).flatMap ecells).set (l1.length * 3 + j) v = l1.flatMap ecells ++ ((ecells e).set j v ++ l2.flatMap ecells) := by
  rw [List.flatMap_append, List.flatMap_cons, List.set_append_right _ _ (by rw [ecells_len]; omega), ecells_len, Nat.add_sub_cancel_left, List.set_append_left _ _ (by simpa [ecells] using hj)]
/-- The files' bytes. -/
structure EAt (w : World) (B : Nat) (e : EF) : Prop where
  rd : Rd w e.A (e.f.b.map bv)
  nc : e.f.b.length ≤ e.c
  ge : ∀ x ∈ rowOf e.A, B ≤ x ∧ x < w.heap.size
  len : e.f.b.length ≤ 140737488355328
theorem EAt.keep {w w' : World} {B : Nat} {e : EF} {bs : List Nat} (h : EAt w B e) (hk : Keep bs w w') (hb : ∀ x ∈ rowOf e.A, x ∉ bs) : EAt w' B e :=
  ⟨h.rd.keep hk fun ad ea => hb _ (by simp [rowOf, ea]), h.nc, fun x hx => ⟨(h.ge x hx).1, Nat.lt_of_lt_of_le (h.ge x hx).2 hk.size⟩, h.len⟩
theorem EAt.ext {w w' : World} {B : Nat} {e : EF} (h : EAt w B e) (hx : Ext w w') : EAt w' B e := h.keep (Keep.of_ext (bs := []) hx) (by simp)
theorem fileRow : RowS Tryd.prog 41 74 3 48 := RowS.of (z := .agg #[.string ⟨#[]⟩, .slice none 0 0, .int .i64 0]) (by omega) Tryd.underlying41 (by kernel_rfl) rfl
structure Tab (w : World) (B : Nat) (T : Option Addr) (c : Nat) (L : List EF) : Prop where
  own : w.ownsRow B 74 3 (.slice T L.length c) L.length (L.flatMap ecells)
  fl : ∀ e ∈ L, EAt w B e
  ap : ∀ e ∈ L, ∀ x ∈ rowOf e.A, x ∉ rowOf T
def tfoot (T : Option Addr) (L : List EF) : List Nat := rowOf T ++ L.flatMap fun e => rowOf e.A
theorem Tab.keep {w w' : World} {B c : Nat} {T : Option Addr} {L : List EF} {bs : List Nat} (h : Tab w B T c L) (hk : Keep bs w w') (hb : ∀ x ∈ tfoot T L, x ∉ bs) : Tab w' B T c L :=
  ⟨own_keep h.own hk fun g hg => hb g (by
    rcases T with _ | ad
    · cases hg
    · simp [Value.ownBlock] at hg; simp [tfoot, rowOf, hg]), fun e he => (h.fl e he).keep hk fun x hx => hb x (by simp only [tfoot, List.mem_append, List.mem_flatMap]; exact .inr ⟨e, he, hx⟩), h.ap⟩
theorem Tab.ext {w w' : World} {B c : Nat} {T : Option Addr} {L : List EF} (h : Tab w B T c L) (hx : Ext w w') : Tab w' B T c L := h.keep (Keep.of_ext (bs := []) hx) (by simp)
theorem Tab.lt {w : World} {B c : Nat} {T : Option Addr} {L : List EF} (h : Tab w B T c L) : ∀ x ∈ tfoot T L, B ≤ x ∧ x < w.heap.size := fun x hx => by
  rcases List.mem_append.1 hx with hx | hx
  · refine h.own.lt x ?_
    rcases T with _ | ad
    · cases hx
    · simp [rowOf] at hx; simp [Value.ownBlock, hx]
  · obtain ⟨e, he, hx⟩ := List.mem_flatMap.1 hx
    exact (h.fl e he).ge x hx
/-- The cells of one file. -/
theorem Tab.at {w : World} {B c : Nat} {T : Option Addr} {l1 l2 : List EF} {e : EF} (h : Tab w B T c (l1 ++ e :: l2)) : ∃ t, T = some ⟨t, 0, none⟩ ∧ B ≤ t ∧ t < w.heap.size ∧
    w.cell? ⟨t, l1.length * 3, none⟩ = some (.string ⟨e.f.nm.toArray⟩) ∧ w.cell? ⟨t, l1.length * 3 + 1, none⟩ = some (.slice e.A e.f.b.length e.c) ∧ w.cell? ⟨t, l1.length * 3 + 2, none⟩ = some (.int .i64 (e.f.sy : Nat)) ∧
    (∀ i, w.frozen? ⟨t, i, none⟩ = false) := by
  obtain ⟨t, cs, rfl, hb, hnc, hcm, hr, hl, ht⟩ := own_pos h.own (by simp; omega)
  have hc : ∀ j v, (ecells e)[j]? = some v → j < 3 → w.cell? ⟨t, l1.length * 3 + j, none⟩ = some v := fun j v hv hj => by
    have h1 := h.own.cells (g := t) rfl (l1.length * 3 + j) v (by rw [ecells_at hj]; exact hv)
    have e1 : (⟨t, 0, none⟩ : Addr).add (l1.length * 3 + j) = ⟨t, l1.length * 3 + j, none⟩ := by unfold Addr.add; split <;> simp_all
    rwa [e1] at h1
  exact ⟨t, rfl, hb, hr.lt, hc 0 _ rfl (by omega), hc 1 _ rfl (by omega), hc 2 _ rfl (by omega), fun i => hr.fro i⟩
/-- One cell of a file is laid anew. -/
theorem Tab.set {w : World} {B c t : Nat} {l1 l2 : List EF} {e e' : EF} (h : Tab w B (some ⟨t, 0, none⟩) c (l1 ++ e :: l2)) (j : Nat) (hj : j < 3) (v : Value) (he : (ecells e).set j v = ecells e') (hE : EAt w B e') (hA : t ∉ rowOf e'.A) :
    Tab (w.setCell ⟨t, l1.length * 3 + j, none⟩ v) B (some ⟨t, 0, none⟩) c (l1 ++ e' :: l2) := by
  have hk := Keep.setCell w ⟨t, l1.length * 3 + j, none⟩ v
  have ho := own_set h.own (l1.length * 3 + j) v
  rw [ecells_set hj, he] at ho
  have hlen : (l1 ++ e' :: l2).length = (l1 ++ e :: l2).length := by simp
  refine ⟨?_, fun z hz => ?_, fun z hz => ?_⟩
  · rw [List.flatMap_append, List.flatMap_cons, hlen]; exact ho
  · have hn : ∀ y, EAt w B y → (∀ x ∈ rowOf y.A, x ∉ rowOf (some (⟨t, 0, none⟩ : Addr))) → EAt (w.setCell ⟨t, l1.length * 3 + j, none⟩ v) B y := fun y hy hs => hy.keep hk (by simpa [rowOf] using hs)
    rcases List.mem_append.1 hz with hz | hz
    · exact hn z (h.fl z (by simp [hz])) (h.ap z (by simp [hz]))
    · rcases List.mem_cons.1 hz with rfl | hz
      · refine hn _ hE fun x hx hm => ?_
        simp [rowOf] at hm
        subst hm
        exact hA hx
      · exact hn z (h.fl z (by simp [hz])) (h.ap z (by simp [hz]))
  · rcases List.mem_append.1 hz with hz | hz
    · exact h.ap z (by simp [hz])
    · rcases List.mem_cons.1 hz with rfl | hz
      · intro x hx hm
        simp [rowOf] at hm
        subst hm
        exact hA hx
      · exact h.ap z (by simp [hz])
/-- The answer's disk in memory. -/
structure RAt (w : World) (B r : Nat) (S : DS) (T : Option Addr) (c : Nat) (L : List EF) : Prop where
  row : ∃ q : Int, (0 ≤ S.bud → q = S.bud) ∧ Row w r 43 [.int .i64 S.room, .slice T L.length c, .bool S.off, .bool (decide (0 ≤ S.bud)), .int .i64 q, .int .i64 S.st]
  tab : Tab w B T c L
  ls : S.l = L.map EF.f
  ap : r ∉ tfoot T L
  ge : B ≤ r
  ok : S.Ok
def rfoot (r : Nat) (T : Option Addr) (L : List EF) : List Nat := r :: tfoot T L
theorem RAt.lt {w : World} {B r c : Nat} {S : DS} {T : Option Addr} {L : List EF} (h : RAt w B r S T c L) : ∀ x ∈ rfoot r T L, B ≤ x ∧ x < w.heap.size := fun x hx => by
  rcases List.mem_cons.1 hx with rfl | hx
  · obtain ⟨q, _, hr⟩ := h.row
    exact ⟨h.ge, hr.lt⟩
  · exact h.tab.lt x hx
theorem RAt.keep {w w' : World} {B r c : Nat} {S : DS} {T : Option Addr} {L : List EF} {bs : List Nat} (h : RAt w B r S T c L) (hk : Keep bs w w') (hb : ∀ x ∈ rfoot r T L, x ∉ bs) : RAt w' B r S T c L := by
  obtain ⟨q, hq, hr⟩ := h.row
  exact ⟨⟨q, hq, hr.keep hk (hb r (by simp [rfoot]))⟩, h.tab.keep hk fun x hx => hb x (by simp [rfoot, hx]), h.ls, h.ap, h.ge, h.ok⟩
theorem RAt.ext {w w' : World} {B r c : Nat} {S : DS} {T : Option Addr} {L : List EF} (h : RAt w B r S T c L) (hx : Ext w w') : RAt w' B r S T c L := h.keep (Keep.of_ext (bs := []) hx) (by simp)
/-- The answer's disk at block r stands so; all its blocks are among bs. -/
def Rsk (w : World) (B r : Nat) (S : DS) (bs : List Nat) : Prop := ∃ T c L, RAt w B r S T c L ∧ bs = rfoot r T L
theorem Rsk.lt {w : World} {B r : Nat} {S : DS} {bs : List Nat} (h : Rsk w B r S bs) : ∀ x ∈ bs, B ≤ x ∧ x < w.heap.size := by
  obtain ⟨T, c, L, h, rfl⟩ := h
  exact h.lt
theorem Rsk.keep {w w' : World} {B r : Nat} {S : DS} {bs cs : List Nat} (h : Rsk w B r S bs) (hk : Keep cs w w') (hb : ∀ x ∈ bs, x ∉ cs) : Rsk w' B r S bs := by
  obtain ⟨T, c, L, h, rfl⟩ := h
  exact ⟨T, c, L, h.keep hk hb, rfl⟩
theorem Rsk.ext {w w' : World} {B r : Nat} {S : DS} {bs : List Nat} (h : Rsk w B r S bs) (hx : Ext w w') : Rsk w' B r S bs := h.keep (Keep.of_ext (bs := []) hx) (by simp)
/-- The answer's disk stands so, its blocks come from bs. -/
def RN (w : World) (B r : Nat) (bs : List Nat) (S' : DS) (w' : World) : Prop := ∃ cs, Rsk w' B r S' cs ∧ Stp bs cs w w'
end Go.Proofs.YtkgnaabmcboffaaDoor
