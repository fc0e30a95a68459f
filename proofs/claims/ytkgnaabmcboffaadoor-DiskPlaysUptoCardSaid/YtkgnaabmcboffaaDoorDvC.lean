/-
  Walks of the answer's disk: a file is laid, a file is dropped.
-/
import Derived.Test.YtkgnaabmcboffaaDoorDvB
set_option linter.unusedSimpArgs false
set_option linter.unusedVariables false
namespace Go.Proofs.YtkgnaabmcboffaaDoor
open Go.RowKit Go.Cv Go.Cv.Dk
theorem bl_eq : ∀ x y : List UInt8, Op.bytesLess x y = bytesBefore x y
  | [], [] => rfl
  | [], _ :: _ => rfl
  | _ :: _, [] => rfl
  | a :: x, b :: y => by rw [Op.bytesLess, bytesBefore, bl_eq x y]
def anyb (x : List UInt8) (l : List EF) : Bool := l.any fun y => bytesBefore x y.f.nm
def lst (e : EF) (l : List EF) : List EF := if anyb e.f.nm l then ins EF.nm e l else l
theorem ins_any {e : EF} : ∀ {l : List EF}, anyb e.f.nm l = true → ∀ r, ins EF.nm e (l ++ r) = ins EF.nm e l ++ r
  | [], h, _ => by simp [anyb] at h
  | y :: l, h, r => by
    simp only [List.cons_append, ins]
    by_cases hb : bytesBefore (EF.nm e) (EF.nm y) = true
    · rw [if_pos hb, if_pos hb]; rfl
    · rw [if_neg hb, if_neg hb, ins_any (l := l) (by
        unfold anyb at h ⊢
        rw [List.any_cons] at h
        have : bytesBefore e.f.nm y.f.nm = false := by simpa [EF.nm] using hb
        simpa [this] using h) r]
      rfl
theorem ins_none {e : EF} : ∀ {l : List EF}, anyb e.f.nm l = false → ∀ r, ins EF.nm e (l ++ r) = l ++ ins EF.nm e r
  | [], _, _ => rfl
  | y :: l, h, r => by
    unfold anyb at h
    rw [List.any_cons, Bool.or_eq_false_iff] at h
    simp only [List.cons_append, ins]
    rw [if_neg (by simpa [EF.nm] using h.1), ins_none (l := l) h.2 r]
theorem lst_snoc (e y : EF) (l : List EF) : anyb e.f.nm (l ++ [y]) = (anyb e.f.nm l || bytesBefore e.f.nm y.f.nm) ∧
    lst e (l ++ [y]) = if anyb e.f.nm l then lst e l ++ [y] else if bytesBefore e.f.nm y.f.nm then l ++ [e] ++ [y] else l ++ [y] := by
  have h1 : anyb e.f.nm (l ++ [y]) = (anyb e.f.nm l || bytesBefore e.f.nm y.f.nm) := by simp [anyb]
  refine ⟨h1, ?_⟩
  unfold lst
  rw [h1]
  rcases ha : anyb e.f.nm l with _ | _
  · rcases hb : bytesBefore e.f.nm y.f.nm with _ | _
    · simp
    · simp only [Bool.or_true, if_true, Bool.false_eq_true, if_false]
      rw [ins_none ha]
      simp [ins, EF.nm, hb]
  · simp only [Bool.true_or, if_true]
    exact ins_any ha _
theorem lst_end (e : EF) (l : List EF) : ins EF.nm e l = if anyb e.f.nm l then lst e l else lst e l ++ [e] := by
  unfold lst
  rcases ha : anyb e.f.nm l with _ | _
  · simp only [Bool.false_eq_true, if_false]
    have := ins_none ha []
    rw [List.append_nil] at this
    exact this
  · simp
theorem rd_list (w : World) (xs : List Value) (t : TypeId) : Rd (w.alloc (.cells xs.toArray t)) (some ⟨w.heap.size, 0, none⟩) xs := Rd.of_cells fun j u hu => by
  have hj : j < xs.length := by
    rcases Nat.lt_or_ge j xs.length with h | h
    · exact h
    · rw [List.getElem?_eq_none h] at hu; cases hu
  have e : (⟨w.heap.size, 0, none⟩ : Addr).add j = ⟨w.heap.size, j, none⟩ := by unfold Addr.add; split <;> simp_all
  rw [e, (Row.alloc w xs t).cell hj]
  rw [List.getElem?_eq_getElem hj] at hu
  exact hu
theorem one_cells (e : EF) : ∀ u ∈ ecells e, u.oneCell' = true := fun u hu => ecells_one [e] u (by simpa using hu)
theorem ext_app {W a b c : World} {base m cc : Nat} {ty : TypeId} {sz : Nat} {T : Option Addr} {xs : List Value} (h : Ext W a) (ho : a.ownsRow base ty sz (.slice T m cc) m xs) (hb : W.heap.size ≤ base) (hx : Ext a b) (hk : Keep (rowOf T) b c) : Ext W c := by
  have h2 := h.trans hx
  refine ⟨hk.os.trans h2.os, hk.tape.trans h2.tape, hk.output.trans h2.output, Nat.le_trans h2.size hk.size, fun k hlt => ?_⟩
  rw [hk.keep k (Nat.lt_of_lt_of_le hlt h2.size) fun hm => ?_]
  · exact h2.block k hlt
  · have := (ho.lt k (rowOf_own hm)).1
    omega
theorem own_snoc {w : World} {base m c : Nat} {T : Option Addr} {l : List EF} {y : EF} (h : w.ownsRow base 74 3 (.slice T (m + 1) c) (m + 1) (l.flatMap ecells ++ ecells y)) : w.ownsRow base 74 3 (.slice T (m + 1) c) (m + 1) ((l ++ [y]).flatMap ecells) := by
  rw [List.flatMap_append, List.flatMap_cons, List.flatMap_nil, List.append_nil]; exact h
theorem own_snoc2 {w : World} {base m c : Nat} {T : Option Addr} {l : List EF} {x y : EF} (h : w.ownsRow base 74 3 (.slice T (m + 1 + 1) c) (m + 1 + 1) (l.flatMap ecells ++ ecells x ++ ecells y)) : w.ownsRow base 74 3 (.slice T (m + 1 + 1) c) (m + 1 + 1) ((l ++ [x] ++ [y]).flatMap ecells) :=
  own_snoc (by rw [List.flatMap_append, List.flatMap_cons, List.flatMap_nil, List.append_nil]; exact h)
theorem len_snoc {α : Type} {l : List α} {y : α} {m : Nat} (h : l.length = m) : (l ++ [y]).length = m + 1 := by rw [List.length_append, h]; rfl
theorem meas {n k : Nat} (h : k < n) : n - (intOf (Value.int .i64 ((k : Int) + 1))).toNat < n - (intOf (Value.int .i64 (k : Int))).toNat := by simp [intOf]; omega
def eagg (e : EF) : Value := .agg #[.string ⟨e.f.nm.toArray⟩, .slice e.A e.f.b.length e.c, .int .i64 (e.f.sy : Nat)]
/-- The list has been laid anew. -/
theorem RAt.relaid {w w' : World} {B r c c' : Nat} {S : DS} {T T' : Option Addr} {L L' : List EF} {l' : List PF} {bs : List Nat} (h : RAt w B r S T c L) (hx : Ext w w') (hown : w'.ownsRow w.heap.size 74 3 (.slice T' L'.length c') L'.length (L'.flatMap ecells))
    (hl : l' = L'.map EF.f) (hok : DS.Ok { S with l := l' }) (hE : ∀ e ∈ L', EAt w B e ∧ (∀ x ∈ rowOf e.A, x ∈ bs) ∧ r ∉ rowOf e.A) (hb : ∀ x ∈ rfoot r T L, x ∈ bs) (hB : B ≤ w.heap.size) :
    RAt (w'.setCell ⟨r, 1, none⟩ (.slice T' L'.length c')) B r { S with l := l' } T' c' L' ∧ Stp bs (rfoot r T' L') w (w'.setCell ⟨r, 1, none⟩ (.slice T' L'.length c')) ∧ Keep [r] w (w'.setCell ⟨r, 1, none⟩ (.slice T' L'.length c')) := by
  have hT' : ∀ x ∈ rowOf T', w.heap.size ≤ x ∧ x < w'.heap.size := fun x hx => hown.lt x (by
    rcases T' with _ | ad
    · cases hx
    · simp [rowOf] at hx; simp [Value.ownBlock, hx])
  obtain ⟨q, hq, hr⟩ := h.row
  have hrl := hr.lt
  have hk := Keep.setCell w' ⟨r, 1, none⟩ (.slice T' L'.length c')
  have hk2 : Keep [r] w (w'.setCell ⟨r, 1, none⟩ (.slice T' L'.length c')) := (Keep.of_ext (bs := [r]) hx).same hk
  have hrT : ∀ x ∈ rowOf T', x ≠ r := fun x hx e => by have := (hT' x hx).1; omega
  refine ⟨⟨⟨q, hq, (hr.ext hx).set 1 _⟩, ⟨?_, fun e he => ?_, fun e he x hx hm => ?_⟩, hl, fun hm => ?_, h.ge, hok⟩, ⟨hk2.mono (fun x hx => by rw [List.mem_singleton.1 hx]; exact hb r (by simp [rfoot])), fun x hx => ?_⟩, hk2⟩
  · exact own_keep (own_base hown hB) hk fun g hg hm => by
      rw [List.mem_singleton.1 hm] at hg
      exact hrT r (own_rowOf hg) rfl
  · obtain ⟨h1, _, h3⟩ := hE e he
    exact h1.keep hk2 fun x hx hm => by rw [List.mem_singleton.1 hm] at hx; exact h3 hx
  · have := (hT' x hm).1
    have := ((hE e he).1.ge x hx).2
    omega
  · rcases List.mem_append.1 hm with hm | hm
    · exact hrT r hm rfl
    · obtain ⟨e, he, hm⟩ := List.mem_flatMap.1 hm
      exact (hE e he).2.2 hm
  · rcases List.mem_cons.1 hx with rfl | hx
    · exact .inl (hb _ (by simp [rfoot]))
    · rcases List.mem_append.1 hx with hx | hx
      · exact .inr (hT' x hx).1
      · obtain ⟨e, he, hx⟩ := List.mem_flatMap.1 hx
        exact .inl ((hE e he).2.1 x hx)
set_option maxHeartbeats 3200000 in
theorem rlay_any (B r : Nat) (S : DS) (T : Option Addr) (c : Nat) (L : List EF) (e : EF) (w : World) (bs : List Nat) (h : RAt w B r S T c L) (hE : EAt w B e) (hre : r ∉ rowOf e.A) (hok : DS.Ok { S with l := ins PF.nm e.f S.l })
    (hL : L.length ≤ 1099511627776) (hB : B ≤ w.heap.size) (hb1 : ∀ x ∈ rfoot r T L, x ∈ bs) (hb2 : ∀ x ∈ rowOf e.A, x ∈ bs) :
    Calls Tryd.prog 42 #[.pointer (some ⟨r, 0, none⟩), eagg e] w fun e' w' => e' = .returned (.tuple #[]) ∧ ∃ T' c', RAt w' B r { S with l := ins PF.nm e.f S.l } T' c' (ins EF.nm e L) ∧ Stp bs (rfoot r T' (ins EF.nm e L)) w w' ∧ Keep [r] w w' := by
  refine calls_hid fun G hG => ?_
  have hg : ∀ w' T' c', Ext w w' → w'.ownsRow w.heap.size 74 3 (.slice T' (ins EF.nm e L).length c') (ins EF.nm e L).length ((ins EF.nm e L).flatMap ecells) → G (.returned (.tuple #[])) (w'.setCell ⟨r, 1, none⟩ (.slice T' (ins EF.nm e L).length c')) := fun w' T' c' hx ho => hG.out _ _ (by
    have := h.relaid (l' := ins PF.nm e.f S.l) (bs := bs) hx ho (by rw [h.ls]; exact (ins_map (key := EF.nm) (key' := PF.nm) (f := EF.f) (fun _ => rfl) e L).symm) hok (fun z hz => ?_) hb1 hB
    · exact ⟨rfl, T', c', this⟩
    · rcases (ins_mem EF.nm e L z).1 hz with rfl | hz
      · exact ⟨hE, hb2, hre⟩
      · exact ⟨h.tab.fl z hz, fun x hx => hb1 x (by simp only [rfoot, tfoot, List.mem_cons, List.mem_append, List.mem_flatMap]; exact .inr (.inr ⟨z, hz, hx⟩)), fun hm => h.ap (by simp only [tfoot, List.mem_append, List.mem_flatMap]; exact .inr ⟨z, hz, hm⟩)⟩)
  replace hg := Lib.hid hg
  obtain ⟨q, hq, hr⟩ := h.row
  have c1 : w.cell? ⟨r, 1, none⟩ = some (.slice T L.length c) := hr.cell (i := 1) (by simp)
  have hT := h.tab
  clear hG hq h
  obtain ⟨n, hn⟩ : ∃ n, n = L.length := ⟨_, rfl⟩
  rw [← hn] at c1 hL
  replace hn := Lib.hid hn
  unfold eagg
  go_enter Tryd.func42, Tryd.ntmps42
  go_wp2
  have hW : Row (w.alloc (.cells #[.string ⟨e.f.nm.toArray⟩, .slice e.A e.f.b.length e.c, .int .i64 (e.f.sy : Nat)] 74)) w.heap.size 74 (ecells e) := Row.alloc w (ecells e) _
  have hWx := ext_alloc w (.cells #[.string ⟨e.f.nm.toArray⟩, .slice e.A e.f.b.length e.c, .int .i64 (e.f.sy : Nat)] 74)
  generalize w.alloc (.cells #[.string ⟨e.f.nm.toArray⟩, .slice e.A e.f.b.length e.c, .int .i64 (e.f.sy : Nat)] 74) = W at *
  have e0 : W.cell? ⟨w.heap.size, 0, none⟩ = some (.string ⟨e.f.nm.toArray⟩) := hW.cell (i := 0) (by simp [ecells])
  have e1 : W.cell? ⟨w.heap.size, 1, none⟩ = some (.slice e.A e.f.b.length e.c) := hW.cell (i := 1) (by simp [ecells])
  have e2 : W.cell? ⟨w.heap.size, 2, none⟩ = some (.int .i64 (e.f.sy : Nat)) := hW.cell (i := 2) (by simp [ecells])
  replace c1 := hWx.cell c1
  replace hT := hT.ext hWx
  replace hr := Lib.hid (hr.ext hWx)
  clear hW
  go_loopw [4, 5, 6] (fun o d i wr => ∃ (k : Nat) (T' : Option Addr) (c' m : Nat), k ≤ n ∧ i = .int .i64 k ∧ d = .bool (anyb e.f.nm (L.take k)) ∧ o = .slice T' m c' ∧ Hid ((lst e (L.take k)).length = m) ∧ wr.ownsRow W.heap.size 74 3 (.slice T' m c') m ((lst e (L.take k)).flatMap ecells) ∧ Ext W wr) (fun o d i _ => n - (intOf i).toNat)
  case atStart => exact ⟨0, none, 0, 0, Nat.zero_le _, rfl, rfl, rfl, Lib.hid rfl, World.ownsRow_nil _ _ _ _, Ext.refl _⟩
  case round =>
    obtain ⟨k, T', c', m, hk, rfl, rfl, rfl, hm, ho, hx⟩ := hrel
    have hml : m ≤ 1099511627777 := by
      have h1 : (lst e (L.take k)).length ≤ (L.take k).length + 1 := by
        unfold lst
        split
        · rw [ins_length]; omega
        · omega
      have h2 : (L.take k).length ≤ k := by rw [List.length_take]; omega
      rw [hm.out] at h1
      omega
    by_cases hlt : k < n
    · obtain ⟨l1, y, l2, hL1, hl1, ht1, ht2⟩ := split_at (l := L) (k := k) (by rw [← hn.out]; exact hlt)
      have hT2 := hT
      rw [hL1] at hT2
      obtain ⟨t, rfl, _, _, b0, b1, b2, _⟩ := hT2.at
      rw [hl1] at b0 b1 b2
      have d0 := hx.cell b0
      have d1 := hx.cell b1
      have d2 := hx.cell b2
      replace b0 := Lib.hid b0
      replace b1 := Lib.hid b1
      replace b2 := Lib.hid b2
      have q1 := congrArg (anyb e.f.nm) ht2
      have q2 := congrArg (lst e) ht2
      rw [(lst_snoc e y l1).1] at q1
      rw [(lst_snoc e y l1).2] at q2
      rw [ht1] at ho hm ⊢
      have u0 := hx.cell e0
      have u1 := hx.cell e1
      have u2 := hx.cell e2
      have v1 := hx.cell c1
      have hge := hx.size
      replace hL1 := Lib.hid hL1
      replace hl1 := Lib.hid hl1
      replace ht2 := Lib.hid ht2
      replace ht1 := Lib.hid ht1
      replace hT := Lib.hid hT
      replace q1 := Lib.hid q1
      have a1 := Lib.hid c1
      clear hT2 e0 e1 e2 c1
      have hl0 : anyb e.f.nm l1 = false → lst e l1 = l1 := fun h => by unfold lst; rw [h]; rfl
      replace hl0 := Lib.hid hl0
      rcases ha : anyb e.f.nm l1 with _ | _
      · rw [hl0.out ha] at ho hm
        rcases hb : bytesBefore e.f.nm y.f.nm with _ | _
        · have hc : Op.bytesLess e.f.nm y.f.nm = false := by rw [bl_eq]; exact hb
          simp only [ha, hb, if_false, Bool.false_eq_true] at q2
          replace q2 := Lib.hid q2
          go_wp2_with fail
          go_quiet (fail)
          go_wp2_with (at_builtin; refine wpList_appfam rfl (.tmp 35) (.tmp 43) 41 74 3 48 rfl fileRow W.heap.size _ _ _ _ rfl (own_ext ho (((Ext.refl wr).drewN _).trans (ext_alloc _ _))) ⟨_, 0, none⟩ 1 1 (ecells y) rfl rfl (rd_list _ (ecells y) _) (one_cells y) (by unfold maxLen; omega) (by omega) (Nat.le_trans hge (by simp)) ?_; intro T3 c3 w3 ho3 hk3 hn3; have x3 := ext_app hx ho (Nat.le_refl _) (((Ext.refl wr).drewN _).trans (ext_alloc _ _)) hk3)
          refine ⟨⟨k + 1, T3, c3, m + 1, hlt, by simp, by rw [q1.out, ha, hb]; rfl, rfl, Lib.hid ((congrArg List.length q2.out).trans (len_snoc hm.out)), ?_, x3⟩, meas hlt⟩
          rw [q2.out]
          exact own_snoc ho3
        · have hc : Op.bytesLess e.f.nm y.f.nm = true := by rw [bl_eq]; exact hb
          simp only [ha, hb, if_false, if_true, Bool.false_eq_true] at q2
          replace q2 := Lib.hid q2
          go_wp2_with fail
          go_quiet (fail)
          go_wp2_with (first
            | (at_builtin; refine wpList_appfam rfl (.tmp 31) (.tmp 33) 41 74 3 48 rfl fileRow W.heap.size _ _ _ _ rfl (own_ext ho (((Ext.refl wr).drewN _).trans (ext_alloc _ _))) ⟨_, 0, none⟩ 1 1 (ecells e) rfl rfl (rd_list _ (ecells e) _) (one_cells e) (by unfold maxLen; omega) (by omega) (Nat.le_trans hge (by simp)) ?_; intro T2 c2 w2 ho2 hk2 hn2; have x2 := ext_app hx ho (Nat.le_refl _) (((Ext.refl wr).drewN _).trans (ext_alloc _ _)) hk2; have g2 := x2.size; have d0 := x2.cell b0.out; have d1 := x2.cell b1.out; have d2 := x2.cell b2.out; have v1 := x2.cell a1.out)
            | (at_builtin; refine wpList_appfam rfl (.tmp 35) (.tmp 43) 41 74 3 48 rfl fileRow W.heap.size _ _ _ _ rfl (own_ext ho2 (ext_alloc _ _)) ⟨_, 0, none⟩ 1 1 (ecells y) rfl rfl (rd_list _ (ecells y) _) (one_cells y) (by unfold maxLen; omega) (by omega) (Nat.le_trans g2 (by simp)) ?_; intro T3 c3 w3 ho3 hk3 hn3; have x3 := ext_app x2 ho2 (Nat.le_refl _) (ext_alloc _ _) hk3))
          refine ⟨⟨k + 1, T3, c3, m + 1 + 1, hlt, by simp, by rw [q1.out, ha, hb]; rfl, rfl, Lib.hid ((congrArg List.length q2.out).trans (len_snoc (len_snoc hm.out))), ?_, x3⟩, meas hlt⟩
          rw [q2.out]
          exact own_snoc2 ho3
      · simp only [ha, if_true] at q2
        replace q2 := Lib.hid q2
        go_wp2_with fail
        go_region
        go_wp2_with (at_builtin; refine wpList_appfam rfl (.tmp 35) (.tmp 43) 41 74 3 48 rfl fileRow W.heap.size _ _ _ _ rfl (own_ext ho (((Ext.refl wr).drewN _).trans (ext_alloc _ _))) ⟨_, 0, none⟩ 1 1 (ecells y) rfl rfl (rd_list _ (ecells y) _) (one_cells y) (by unfold maxLen; omega) (by omega) (Nat.le_trans hge (by simp)) ?_; intro T3 c3 w3 ho3 hk3 hn3; have x3 := ext_app hx ho (Nat.le_refl _) (((Ext.refl wr).drewN _).trans (ext_alloc _ _)) hk3)
        refine ⟨⟨k + 1, T3, c3, m + 1, hlt, by simp, by rw [q1.out, ha]; rfl, rfl, Lib.hid ((congrArg List.length q2.out).trans (len_snoc hm.out)), ?_, x3⟩, meas hlt⟩
        rw [q2.out]
        exact own_snoc ho3
    · rw [List.take_of_length_le (by have := hn.out; omega)] at ho hm ⊢
      have v1 := hx.cell c1
      have u0 := hx.cell e0
      have u1 := hx.cell e1
      have u2 := hx.cell e2
      have hge := hx.size
      have hfr := (hr.out.ext hx).fro 1
      have hle := lst_end e L
      have a1 := Lib.hid c1
      clear c1 e0 e1 e2 hT
      rcases ha : anyb e.f.nm L with _ | _
      · rw [ha] at hle
        simp only [if_false, Bool.false_eq_true] at hle
        replace hle := Lib.hid hle
        go_wp2_with (at_builtin; refine wpList_appfam rfl (.tmp 47) (.tmp 49) 41 74 3 48 rfl fileRow W.heap.size _ _ _ _ rfl (own_ext ho (ext_alloc _ _)) ⟨_, 0, none⟩ 1 1 (ecells e) rfl rfl (rd_list _ (ecells e) _) (one_cells e) (by unfold maxLen; omega) (by omega) (Nat.le_trans hge (by simp)) ?_; intro T3 c3 w3 ho3 hk3 hn3; have x3 := ext_app hx ho (Nat.le_refl _) (ext_alloc _ _) hk3; have v1 := x3.cell a1.out; have hfr := (hr.out.ext x3).fro 1)
        have hz : (ins EF.nm e L).length = m + 1 := by rw [hle.out]; exact len_snoc hm.out
        have hgg := hg.out w3 T3 c3 (hWx.trans x3) (by rw [hz, hle.out]; exact own_base (own_snoc ho3) hWx.size)
        rw [hz] at hgg
        go_end0
        exact hgg
      · rw [ha] at hle
        simp only [if_true] at hle
        replace hle := Lib.hid hle
        go_wp2
        have hz : (ins EF.nm e L).length = m := by rw [hle.out]; exact hm.out
        have hgg := hg.out wr T' c' (hWx.trans hx) (by rw [hz, hle.out]; exact own_base ho hWx.size)
        rw [hz] at hgg
        go_end0
        exact hgg
theorem cut_some (t i m : Nat) : ∃ ad, cutA (some ⟨t, 0, none⟩) i m 3 = some ad := by
  unfold cutA
  split
  · exact ⟨_, rfl⟩
  · exact ⟨_, rfl⟩
theorem rd_cut {w : World} {t m : Nat} {l1 l2 : List EF} (h : Rd w (some ⟨t, 0, none⟩) ((l1 ++ l2).flatMap ecells)) (hm : (l1 ++ l2).length ≤ m) : Rd w (cutA (some ⟨t, 0, none⟩) l1.length m 3) (l2.flatMap ecells) := by
  unfold cutA
  split
  · rename_i e
    have : l2 = [] := by
      rw [List.length_append] at hm
      exact List.eq_nil_of_length_eq_zero (by omega)
    subst this
    exact Rd.nil_
  · have := h.drop (l1.length * 3)
    rw [List.flatMap_append, List.drop_append_of_le_length (by rw [ecells_len]; omega), List.drop_of_length_le (by rw [ecells_len]; omega), List.nil_append] at this
    exact this
set_option maxHeartbeats 1600000 in
theorem rdrop_any (B r : Nat) (S : DS) (T : Option Addr) (c : Nat) (l1 l2 : List EF) (e : EF) (w : World) (bs : List Nat) (h : RAt w B r S T c (l1 ++ e :: l2)) (hok : DS.Ok { S with l := (l1 ++ l2).map EF.f })
    (hL : (l1 ++ e :: l2).length ≤ 1099511627776) (hB : B ≤ w.heap.size) (hb1 : ∀ x ∈ rfoot r T (l1 ++ e :: l2), x ∈ bs) :
    Calls Tryd.prog 44 #[.pointer (some ⟨r, 0, none⟩), .int .i64 (l1.length : Nat)] w fun e' w' => e' = .returned (.tuple #[]) ∧ ∃ T' c', RAt w' B r { S with l := (l1 ++ l2).map EF.f } T' c' (l1 ++ l2) ∧ Stp bs (rfoot r T' (l1 ++ l2)) w w' ∧ Keep [r] w w' := by
  refine calls_hid fun G hG => ?_
  have hg : ∀ w' T' c', Ext w w' → w'.ownsRow w.heap.size 74 3 (.slice T' (l1 ++ l2).length c') (l1 ++ l2).length ((l1 ++ l2).flatMap ecells) → G (.returned (.tuple #[])) (w'.setCell ⟨r, 1, none⟩ (.slice T' (l1 ++ l2).length c')) := fun w' T' c' hx ho => hG.out _ _ (by
    have := h.relaid (l' := (l1 ++ l2).map EF.f) (bs := bs) hx ho rfl hok (fun z hz => ?_) hb1 hB
    · exact ⟨rfl, T', c', this⟩
    · have hz : z ∈ l1 ++ e :: l2 := by
        rcases List.mem_append.1 hz with hz | hz
        · simp [hz]
        · simp [hz]
      exact ⟨h.tab.fl z hz, fun x hx => hb1 x (by simp only [rfoot, tfoot, List.mem_cons, List.mem_append, List.mem_flatMap]; exact .inr (.inr ⟨z, by simpa using hz, hx⟩)), fun hm => h.ap (by simp only [tfoot, List.mem_append, List.mem_flatMap]; exact .inr ⟨z, by simpa using hz, hm⟩)⟩)
  replace hg := Lib.hid hg
  obtain ⟨q, hq, hr⟩ := h.row
  have c1 : w.cell? ⟨r, 1, none⟩ = some (.slice T (l1 ++ e :: l2).length c) := hr.cell (i := 1) (by simp)
  obtain ⟨t, rfl, _⟩ := h.tab.at
  have ho := h.tab.own
  have hnc := (own_caps ho).1
  have hcm := (own_caps ho).2
  have hrd := rd_own ho
  have hr1 : Rd w (some ⟨t, 0, none⟩) (l1.flatMap ecells) := by
    have := hrd.take (l1.length * 3)
    rw [List.flatMap_append, List.take_append_of_le_length (by rw [ecells_len]; omega), List.take_of_length_le (by rw [ecells_len]; omega)] at this
    exact this
  have hr2 : Rd w (cutA (some ⟨t, 0, none⟩) (l1.length + 1) c 3) (l2.flatMap ecells) := by
    have e1 : l1 ++ e :: l2 = (l1 ++ [e]) ++ l2 := by simp
    have := rd_cut (w := w) (t := t) (m := c) (l1 := l1 ++ [e]) (l2 := l2) (by rw [← e1]; exact hrd) (by rw [← e1]; exact hnc)
    rwa [List.length_append, List.length_singleton] at this
  have ht : t < w.heap.size := (h.tab.lt t (by simp [tfoot, rowOf])).2
  obtain ⟨k, hk⟩ : ∃ k, k = l1.length := ⟨_, rfl⟩
  obtain ⟨m, hm⟩ : ∃ m, m = l2.length := ⟨_, rfl⟩
  have hn : (l1 ++ e :: l2).length = k + 1 + m := by simp [hk, hm]; omega
  rw [hn] at c1 hL hnc
  rw [← hk] at hr2 ⊢
  obtain ⟨ad2, had2⟩ := cut_some t (k + 1) c
  have hm2 : k + 1 + m - (k + 1) = m := by omega
  have hz : (l1 ++ l2).length = k + m := by simp [hk, hm]
  have l1k : (l1.flatMap ecells).length = k * 3 := by rw [ecells_len, hk]
  have l2m : (l2.flatMap ecells).length = m * 3 := by rw [ecells_len, hm]
  replace hk := Lib.hid hk
  replace hm := Lib.hid hm
  replace hz := Lib.hid hz
  replace hn := Lib.hid hn
  replace l1k := Lib.hid l1k
  replace l2m := Lib.hid l2m
  replace had2 := Lib.hid had2
  replace hr := Lib.hid hr
  clear hG hq h ho hrd
  go_enter Tryd.func44, Tryd.ntmps44
  go_wp2_with (first
    | (at_builtin; (refine wpList_appfam rfl (.tmp 5) (.tmp 11) 41 74 3 48 rfl fileRow w.heap.size none 0 0 [] rfl (World.ownsRow_nil _ _ _ _) ⟨t, 0, none⟩ k _ (l1.flatMap ecells) rfl l1k.out hr1 (ecells_one _) (by unfold maxLen; omega) (by omega) (Nat.le_refl _) ?_; intro T2 c2 w2 ho2 hk2 hn2; rw [Nat.zero_add, List.nil_append] at ho2; have x2 := ext_app (T := none) (Ext.refl w) (World.ownsRow_nil w w.heap.size 74 3) (Nat.le_refl _) (Ext.refl w) hk2; have a1 := Lib.hid c1; have v1 := x2.cell c1))
    | (at_builtin; go_loud (refine wpList_appfam rfl (.tmp 14) (.tmp 21) 41 74 3 48 rfl fileRow w.heap.size _ _ _ _ rfl ho2 ad2 m _ (l2.flatMap ecells) (by rw [← had2.out]; rfl) l2m.out (by rw [← had2.out]; exact hr2.ext x2) (ecells_one _) (by unfold maxLen; omega) (by omega) x2.size ?_; intro T3 c3 w3 ho3 hk3 hn3; have x3 := ext_app x2 ho2 (Nat.le_refl _) (Ext.refl _) hk3; have v3 := x3.cell a1.out; have hfr := (hr.out.ext x3).fro 1)))
  have e1 : (l1.flatMap ecells ++ l2.flatMap ecells) = (l1 ++ l2).flatMap ecells := by rw [List.flatMap_append]
  rw [e1] at ho3
  have hgg := hg.out w3 T3 c3 x3 (by rw [hz.out]; exact ho3)
  rw [hz.out] at hgg
  go_end0
  exact hgg
end Go.Proofs.YtkgnaabmcboffaaDoor
