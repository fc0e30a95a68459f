/-
  Walks of the disk: sync and append.
-/
import Derived.Test.YtkgnaabmcboffaaDoorDkB
set_option linter.unusedSimpArgs false
set_option linter.unusedVariables false
namespace Go.Cv
open Go.RowKit
theorem run_append_zero {P : Program} (w : World) (t ty e : TypeId) (i : TypeInfo) (ht : P.underlying t = some (.slice e)) (hi : P.info? e = some i)
    (hsize : i.size = 1) (ad : Addr) (n c : Nat) (hnc : n ≤ c) (hcm : c ≤ maxLen) (B : Option Addr) (d : Nat) :
    (Builtin.append_ #[t, t] ty #[.slice (some ad) n c, .slice B 0 d]).run P w = .ok (.slice (some ad) n c) w := by
  simp [Builtin.append_, run_underlying ht, sizeOf, typeInfo, hi, Builtin.lenOf, Builtin.firstCells, hnc, storeCells, hsize]
  cases B <;> simp [loadCells, loadCellsFrom, storeCells, hnc]
end Go.Cv
namespace Go.Proofs.YtkgnaabmcboffaaDoor
open Go.RowKit Go.Cv Go.Cv.Dk
/-- Bytes in a slice that a file holds. -/
structure FS (w : World) (B : Nat) (A : Option Addr) (c : Nat) (b : List UInt8) : Prop where
  rd : Rd w A (b.map bv)
  nc : b.length ≤ c
  cm : c ≤ maxLen
  own : w.ownsRow B 5 1 (.slice A b.length c) b.length (b.map bv) ∨ c = b.length
  nil : A = none → b.length = 0 ∧ c = 0
  ge : ∀ x ∈ rowOf A, B ≤ x ∧ x < w.heap.size
theorem FileAt.fs {w : World} {B : Nat} {g : GF} (h : FileAt w B g) : FS w B g.A g.c g.f.b := ⟨h.rd, h.nc, h.cm, h.own, h.nil, h.ge.2⟩
theorem FS.file {w : World} {B : Nat} {g : GF} (h : FS w B g.A g.c g.f.b) (hr : Row w g.k 57 [.slice g.A g.f.b.length g.c, .int .i64 g.f.sy]) (hs : g.f.sy ≤ g.f.b.length) (hB : B ≤ g.k) (hlen : g.f.b.length ≤ 140737488355328) : FileAt w B g :=
  ⟨hr, h.rd, h.nc, h.cm, hs, h.own, h.nil, hlen, hB, h.ge⟩
theorem FS.keep {w w' : World} {B : Nat} {A : Option Addr} {c : Nat} {b : List UInt8} {bs : List Nat} (h : FS w B A c b) (hk : Keep bs w w') (hb : ∀ x ∈ rowOf A, x ∉ bs) : FS w' B A c b := by
  have hr : ∀ ad, A = some ad → ad.block ∉ bs := fun ad e => hb _ (by simp [rowOf, e])
  refine ⟨h.rd.keep hk hr, h.nc, h.cm, ?_, h.nil, fun x hx => ⟨(h.ge x hx).1, Nat.lt_of_lt_of_le (h.ge x hx).2 hk.size⟩⟩
  rcases h.own with ho | ho
  · refine .inl (own_keep ho hk fun k hk' => ?_)
    rcases A with _ | ad
    · cases hk'
    · simp only [Value.ownBlock, Option.some.injEq] at hk'
      subst hk'
      exact hr ad rfl
  · exact .inr ho
theorem u8infoD : ∃ i, Tryd.prog.info? 5 = some i ∧ i.size = 1 := by
  obtain ⟨ht, z, i, hi, hz, hsize, hby, hzs⟩ := u8rowD
  exact ⟨i, hi, hsize⟩
theorem FS.of_own {w : World} {B : Nat} {A : Option Addr} {n c : Nat} {b : List UInt8} (ho : w.ownsRow B 5 1 (.slice A n c) n (b.map bv)) (hn : b.length = n) : FS w B A c b := by
  subst hn
  obtain ⟨A', c', e, hc, hm, hr, _⟩ := own_form ho
  injection e with e1 e2 e3
  subst e1; subst e3
  refine ⟨hr, hc, hm, .inl ho, fun e => ?_, fun x hx => ?_⟩
  · subst e
    rcases ho.2 with ⟨e, e2⟩ | ⟨g, cap, cur, e, _⟩
    · injection e with e1 e3 e4
      exact ⟨e2, e4⟩
    · cases e
  · rcases A with _ | ad
    · cases hx
    · exact ho.lt x (by simp [rowOf] at hx; simp [Value.ownBlock, hx])
theorem rowOf_own {A : Option Addr} {n c x : Nat} (h : x ∈ rowOf A) : (Value.slice A n c).ownBlock = some x := by
  rcases A with _ | ad
  · cases h
  · simp [rowOf] at h; simp [Value.ownBlock, h]
theorem own_rowOf {A : Option Addr} {n c x : Nat} (h : (Value.slice A n c).ownBlock = some x) : x ∈ rowOf A := by
  rcases A with _ | ad
  · cases h
  · simp [Value.ownBlock] at h; simp [rowOf, h]
section
variable {w : World} {ops : Array Oper} {rest : List Oper} {o : Oper} {a : Act} {Q : Exit → Act → World → Prop}
/-- 'append(a file's bytes, what is read)'. -/
theorem wpList_appf (hgd : o.guard = none) (s x : Operand) (ho : o.op = .call { callee := .builtin .append, args := #[s, x], argTypes := #[22, 22] })
    (B : Nat) (A : Option Addr) (n c : Nat) (b : List UInt8) (hs : a.eval s = .slice A n c) (hn : b.length = n) (hF : FS w B A c b)
    (A2 : Option Addr) (m c2 : Nat) (news : List UInt8) (hx : a.eval x = .slice A2 m c2) (hm : news.length = m) (hr : Rd w A2 (news.map bv)) (hbytes : n + m ≤ 140737488355328) (hB : B ≤ w.heap.size)
    (h : ∀ A' c' w', FS w' B A' c' (b ++ news) → Keep (rowOf A) w w' → (∀ x ∈ rowOf A', x ∈ rowOf A ∨ w.heap.size ≤ x) → wpList Tryd.prog ops Q rest (a.put o.dst (.slice A' (n + m) c')) w') : wpList Tryd.prog ops Q (o :: rest) a w := by
  subst hn
  subst hm
  have viaOwn : w.ownsRow B 5 1 (.slice A b.length c) b.length (b.map bv) → wpList Tryd.prog ops Q (o :: rest) a w := fun hO =>
    wpList_appbo hgd s x 22 5 ho u8rowD B _ b.length b hs hO A2 news.length c2 news hx rfl hr hbytes hB fun A' c' w' h2 h3 h4 h5 h6 => by
      refine h A' c' w' (FS.of_own h2 (by simp)) (Keep.grown h6 fun k e => own_rowOf e) fun y hy => ?_
      rcases h5 with e | e
      · exact .inl (own_rowOf (by rw [← e]; exact rowOf_own hy))
      · rw [rowOf_own hy] at e
        injection e with e
        exact .inr (by omega)
  rcases hF.own with hO | hO
  · exact viaOwn hO
  · rcases hA : A with _ | ad
    · obtain ⟨e1, e2⟩ := hF.nil hA
      refine viaOwn ?_
      rw [hA, e2, List.length_eq_zero_iff.1 e1]
      exact World.ownsRow_nil _ _ _ 1
    · by_cases hm0 : news.length = 0
      · obtain ⟨i, hi, hsize⟩ := u8infoD
        refine wpList_plain hgd fun K' hK' => ?_
        have hrun := fun ty => run_append_zero (P := Tryd.prog) w 22 ty 5 i Tryd.underlying22 hi hsize ad b.length c hF.nc hF.cm A2 c2
        unfold Oper.wp
        rw [hA] at hs
        rw [hm0] at hx
        simp [execOp, ho, resolve, invoke, builtin, hs, hx, hrun, Result.andThen]
        have hfin := h A c w (by rw [List.length_eq_zero_iff.1 hm0, List.append_nil]; exact hF) (Keep.refl _ _) (fun y hy => .inl hy)
        rw [hA, hm0] at hfin
        exact hK' _ _ hfin
      · refine wpList_appnew hgd s x 22 5 1 ho u8rowD A b.length c (b.map bv) hs (by simp) hF.rd A2 news.length c2 (news.map bv) hx (by simp) hr (by omega) (by unfold maxLen; omega) (by omega) fun A' c' w' h2 h3 h4 h5 h6 => ?_
        rw [← List.map_append] at h2
        have h7 := FS.of_own h2 (by simp)
        refine h A' c' w' ⟨h7.rd, h7.nc, h7.cm, ?_, h7.nil, fun y hy => ⟨Nat.le_trans hB (h7.ge y hy).1, (h7.ge y hy).2⟩⟩ (Keep.of_ext h6) fun y hy => .inr (h7.ge y hy).1
        rcases h7.own with h8 | h8
        · refine .inl ⟨h8.1, ?_⟩
          rcases h8.2 with h9 | ⟨g, cap, cur, e, hg, r⟩
          · exact .inl h9
          · exact .inr ⟨g, cap, cur, e, Nat.le_trans hB hg, r⟩
        · exact .inr h8
end
/-- One file turns. -/
theorem DiskAt.swap {w w' : World} {B d mb : Nat} {S S' : DS} {l1 l2 : List GF} {g g' : GF} {bs : List Nat} (h : DiskAt w B d mb S (l1 ++ g :: l2)) (hk : Keep bs w w') (hbs : ∀ x ∈ bs, x ∈ ownB g ∨ w.heap.size ≤ x)
    (hnm : g'.f.nm = g.f.nm) (hkk : g'.k = g.k) (hF : FileAt w' B g') (ho : ∀ x ∈ rowOf g'.A, x ∈ rowOf g.A ∨ w.heap.size ≤ x)
    (hd : dcells S'.room mb S'.off S'.bud S'.st = dcells S.room mb S.off S.bud S.st) (hl : S'.l = (l1 ++ g' :: l2).map GF.f) (hok : S'.Ok) :
    DiskAt w' B d mb S' (l1 ++ g' :: l2) ∧ Stp (foot d mb (l1 ++ g :: l2)) (foot d mb (l1 ++ g' :: l2)) w w' := by
  obtain ⟨s1, s2, s3, s4, s5⟩ := h.sep.of
  have hlt := h.lt
  have hmem : ∀ z ∈ l1 ++ l2, z ∈ l1 ++ g :: l2 := fun z hz => by
    rcases List.mem_append.1 hz with hz | hz
    · simp [hz]
    · simp [hz]
  have hin : ∀ x ∈ ownB g, x ∈ foot d mb (l1 ++ g :: l2) := fun x hx => by
    simp only [foot, List.mem_cons, List.mem_flatMap]
    exact .inr (.inr ⟨g, by simp, hx⟩)
  have hinz : ∀ z ∈ l1 ++ l2, ∀ x ∈ ownB z, x ∈ foot d mb (l1 ++ g :: l2) := fun z hz x hx => by
    simp only [foot, List.mem_cons, List.mem_flatMap]
    exact .inr (.inr ⟨z, hmem z hz, hx⟩)
  have hown : ∀ x ∈ ownB g', x ∈ ownB g ∨ w.heap.size ≤ x := fun x hx => by
    rcases List.mem_cons.1 hx with rfl | hx
    · rw [hkk]; exact .inl (by simp [ownB])
    · rcases ho x hx with h1 | h1
      · exact .inl (by simp [ownB, h1])
      · exact .inr h1
  have hnb : ∀ x, x ∈ foot d mb (l1 ++ g :: l2) → x ∉ ownB g → x ∉ bs := fun x hx hn hm => by
    rcases hbs x hm with h1 | h1
    · exact hn h1
    · have := hlt x hx; omega
  have hents : ents (l1 ++ g' :: l2) = ents (l1 ++ g :: l2) := by simp [ents, hnm, hkk]
  have hlen : (l1 ++ g' :: l2).length = (l1 ++ g :: l2).length := by simp
  refine ⟨⟨?_, ?_, fun z hz => ?_, ?_, hl, h.ge, hok⟩, ⟨Keep.trans (bs := foot d mb (l1 ++ g :: l2)) (cs := bs) (Keep.refl _ _) hk fun x hx => ?_, fun x hx => ?_⟩⟩
  · have := h.row.keep hk (hnb d (by simp [foot]) s3)
    rw [show [Value.int .i64 S'.room, .map (some mb), .bool S'.off, .int .i64 S'.bud, .int .i64 S'.st] = [Value.int .i64 S.room, .map (some mb), .bool S.off, .int .i64 S.bud, .int .i64 S.st] from hd]
    exact this
  · have := h.map.keep hk (hnb mb (by simp [foot]) s4)
    unfold MapAt at this ⊢
    rw [hents, hlen]
    exact this
  · rcases List.mem_append.1 hz with hz | hz
    · exact (h.fl z (by simp [hz])).keep hk fun x hx => hnb x (hinz z (by simp [hz]) x hx) fun hm => s5 z (by simp [hz]) x hm hx
    · rcases List.mem_cons.1 hz with rfl | hz
      · exact hF
      · exact (h.fl z (by simp [hz])).keep hk fun x hx => hnb x (hinz z (by simp [hz]) x hx) fun hm => s5 z (by simp [hz]) x hm hx
  · refine h.sep.swap ?_ fun x hx => ?_
    · intro hm
      rw [hkk] at hm
      rcases ho _ hm with h1 | h1
      · exact s2 h1
      · have := hlt g.k (hin _ (by simp [ownB])); omega
    · rcases hown x hx with h1 | h1
      · exact .inl h1
      · refine .inr ⟨fun e => ?_, fun e => ?_, fun z hz hm => ?_⟩
        · have := hlt d (by simp [foot]); omega
        · have := hlt mb (by simp [foot]); omega
        · have := hlt x (hinz z hz x hm); omega
  · rcases hbs x hx with h1 | h1
    · exact .inl (hin x h1)
    · exact .inr h1
  · simp only [foot, List.mem_cons, List.mem_flatMap] at hx
    rcases hx with rfl | rfl | ⟨z, hz, hx⟩
    · exact .inl (by simp [foot])
    · exact .inl (by simp [foot])
    · rcases List.mem_append.1 hz with hz | hz
      · exact .inl (hinz z (by simp [hz]) x hx)
      · rcases List.mem_cons.1 hz with rfl | hz
        · rcases hown x hx with h1 | h1
          · exact .inl (hin x h1)
          · exact .inr h1
        · exact .inl (hinz z (by simp [hz]) x hx)
end Go.Proofs.YtkgnaabmcboffaaDoor
