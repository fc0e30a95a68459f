/-
  The hasher's Write, its row followed: for the statement HashPieces.
-/
import Derived.Test.YtnlphndfnnmdaaaDoorHashV
set_option linter.unusedSimpArgs false
set_option linter.unusedVariables false
namespace Go.Cv
open Go.RowKit
section
variable {P : Program} {w : World} {ops : Array Oper} {rest : List Oper} {o : Oper} {a : Act} {K : Act → World → Prop} {Q : Exit → Act → World → Prop}
/-- 'append(own row of bytes, what is read)', the row followed. -/
theorem wpList_appbo (hgd : o.guard = none) (s x : Operand) (t e : TypeId)
    (ho : o.op = .call { callee := .builtin .append, args := #[s, x], argTypes := #[t, t] }) (hT : RowT P t e 1)
    (base : Nat) (v : Value) (n : Nat) (xs : List UInt8) (hs : a.eval s = v) (hown : w.ownsRow base e 1 v n (xs.map bv))
    (A : Option Addr) (m c : Nat) (news : List UInt8) (hx : a.eval x = .slice A m c) (hm : news.length = m) (hr : Rd w A (news.map bv))
    (hbytes : n + m ≤ 140737488355328) (hbase : base ≤ w.heap.size)
    (h : ∀ A' c' w', w'.ownsRow base e 1 (.slice A' (n + m) c') (n + m) ((xs ++ news).map bv) → n + m ≤ c' → c' ≤ maxLen → ((Value.slice A' (n + m) c').ownBlock = v.ownBlock ∨ (Value.slice A' (n + m) c').ownBlock = some w.heap.size) → w.grownBy w' v.ownBlock → wpList P ops Q rest (a.put o.dst (.slice A' (n + m) c')) w') : wpList P ops Q (o :: rest) a w :=
  wpList_plain hgd fun _ hK => by
    obtain ⟨ht, z, i, hi, hz, hsize, hby, hzs⟩ := hT
    refine wp_append_rd w s x t ho base e i z 1 ht hi hz hsize hby hzs v n _ hs hown A m c _ hx (by simpa using hm) hr (one_map_bv _) (by unfold maxLen; omega) (by omega) hbase fun v' w' h2 h3 h4 => ?_
    obtain ⟨A', c', rfl, hc, hcm, hr', _⟩ := own_form h2
    rw [← List.map_append] at h2
    exact hK _ _ (h A' c' w' h2 hc hcm h4 h3)
end
theorem Keep.grown {w w' : World} {g : Option Nat} {bs : List Nat} (h : w.grownBy w' g) (hg : ∀ k, g = some k → k ∈ bs) : Keep bs w w' :=
  ⟨h.os, h.tape, h.output, h.size, fun k hk hn => h.block k hk fun e => hn (hg k e.symm)⟩
theorem own_lt {w : World} {base : Nat} {e : TypeId} {n s : Nat} {v : Value} {xs : List Value} (h : w.ownsRow base e s v n xs) : ∀ g, v.ownBlock = some g → base ≤ g ∧ g < w.heap.size := fun g hg => h.lt g hg
end Go.Cv
namespace Go.Proofs.YtnlphndfnnmdaaaDoor
open Go.RowKit Go.Cv Go.Cv.Hash
/-- A hasher: what it took lies in the row g of its own. -/
def HsK (w : World) (B b : Nat) (wide : Bool) (l : List UInt8) (g : Option Nat) : Prop :=
  B ≤ b ∧ ∃ v, w.heap[b]? = some (.cells #[.bool wide, v] 56 (0, 0)) ∧ w.ownsRow B 5 1 v l.length (l.map bv) ∧ v.ownBlock = g
theorem HsK.of {w : World} {B b : Nat} {wide : Bool} (h : Hs w B b wide []) : ∃ g, HsK w B b wide [] g := by
  obtain ⟨hB, v, hb, ho⟩ := h
  exact ⟨_, hB, v, hb, ho, rfl⟩
theorem HsK.hs {w : World} {B b : Nat} {wide : Bool} {l : List UInt8} {g : Option Nat} (h : HsK w B b wide l g) : Hs w B b wide l := by
  obtain ⟨hB, v, hb, ho, _⟩ := h
  exact ⟨hB, v, hb, ho⟩
theorem HsK.keep {w w' : World} {B b : Nat} {wide : Bool} {l : List UInt8} {g : Option Nat} {bs : List Nat} (h : HsK w B b wide l g) (hk : Keep bs w w') (hb : b ∉ bs) (hg : ∀ k, g = some k → k ∉ bs) : HsK w' B b wide l g := by
  obtain ⟨hB, v, hbk, ho, rfl⟩ := h
  refine ⟨hB, v, hk.row hbk hb, ?_, rfl⟩
  refine ⟨ho.1, ?_⟩
  rcases ho.2 with h2 | ⟨k, cap, cur, hv, hg', hgg, r⟩
  · exact .inl h2
  · exact .inr ⟨k, cap, cur, hv, hg', hk.row hgg (hg k (by rw [hv]; rfl)), r⟩
theorem HsK.lt {w : World} {B b : Nat} {wide : Bool} {l : List UInt8} {g : Option Nat} (h : HsK w B b wide l g) : b < w.heap.size ∧ ∀ k, g = some k → B ≤ k ∧ k < w.heap.size ∧ k ≠ b := by
  obtain ⟨hB, v, hbk, ho, rfl⟩ := h
  refine ⟨(Array.getElem?_eq_some_iff.1 hbk).1, fun k hk => ⟨(ho.lt k hk).1, (ho.lt k hk).2, fun e => ?_⟩⟩
  subst e
  rcases ho.2 with ⟨rfl, _⟩ | ⟨g, cap, cur, rfl, _, hg, _⟩
  · simp [Value.ownBlock] at hk
  · simp only [Value.ownBlock, Option.some.injEq] at hk
    subst hk
    rw [hg] at hbk
    simp only [Option.some.injEq, Obj.cells.injEq] at hbk
    exact absurd hbk.2.1 (by decide)
theorem HsK.ne_row {w : World} {B b m : Nat} {wide : Bool} {l : List UInt8} {g : Option Nat} {T : TypeId} {cs : List Value} (h : HsK w B b wide l g) (hr : Row w m T cs) (hT : T ≠ 56) : m ≠ b := fun e => by
  obtain ⟨_, v, hb, _⟩ := h
  unfold Row at hr
  rw [e, hb] at hr
  simp only [Option.some.injEq, Obj.cells.injEq] at hr
  exact hT hr.2.1.symm
set_option maxRecDepth 10000 in
set_option maxHeartbeats 4000000 in
theorem write_own (B b : Nat) (wide : Bool) (l : List UInt8) (g : Option Nat) (A : Option Addr) (n c : Nat) (m : List UInt8) (w : World) (h : HsK w B b wide l g) (hm : m.length = n) (hr : Rd w A (m.map bv)) (hbd : l.length + n ≤ 100000000) (hBw : B ≤ w.heap.size) :
    Calls Tryd.prog 13 #[.pointer (some ⟨b, 0, none⟩), .slice A n c] w fun e w' => e = .returned (.tuple #[]) ∧ ∃ g', HsK w' B b wide (l ++ m) g' ∧ (g' = g ∨ g' = some w.heap.size) ∧ Keep (b :: g.toList) w w' := by
  have hne := h.lt.2
  obtain ⟨hB, v, hbk, ho, rfl⟩ := h
  obtain ⟨C, cc, rfl, hnc, hcm, hrd, -⟩ := own_form ho
  have c1 : w.cell? ⟨b, 1, none⟩ = some (.slice C l.length cc) := by rw [Lib.cell_of_heap hbk]; rfl
  have hlt : b < w.heap.size := (Array.getElem?_eq_some_iff.1 hbk).1
  generalize hq : l.length = q at *
  have hne1 : (Value.slice C q cc).ownBlock ≠ some b := fun e => (hne b e).2.2 rfl
  go_enter Tryd.func13, Tryd.ntmps13
  go_wp2_with (at_builtin; refine wpList_appbo rfl (.tmp 8) (.tmp 9) 22 5 rfl u8rowH32 B _ q l rfl ho A n c m rfl hm hr (by omega) hBw ?_; intro A2 c2 w2 ho2 hc2 hm2 hob2 hg2; have hbk2 : w2.heap[b]? = some (.cells #[.bool wide, .slice C q cc] 56 (0, 0)) := (by rw [hg2.block b hlt (fun e => hne1 e.symm)]; exact hbk); have d1 : w2.cell? ⟨b, 1, none⟩ = some (.slice C q cc) := (by rw [Lib.cell_of_heap hbk2]; rfl); have f1 : w2.frozen? ⟨b, 1, none⟩ = false := Lib.frozen_of_heap hbk2 1)
  go_end0
  have hne2 : (Value.slice A2 (q + n) c2).ownBlock ≠ some b := by
    rcases hob2 with e | e
    · exact fun e2 => hne1 (e.symm.trans e2)
    · intro e2
      have e3 := e.symm.trans e2
      simp at e3
      omega
  have hk1 : Keep (b :: (Value.slice C q cc).ownBlock.toList) w w2 := Keep.grown hg2 (fun k e => by
    have e' : (Value.slice C q cc).ownBlock = some k := e
    rw [e']; simp)
  have hk2 : Keep [b] w2 (w2.setCell ⟨b, 1, none⟩ (.slice A2 (q + n) c2)) := Keep.setCell _ ⟨b, 1, none⟩ _
  refine ⟨rfl, _, ⟨hB, .slice A2 (q + n) c2, ?_, ?_, rfl⟩, hob2, hk1.trans hk2 (by simp)⟩
  · simp [World.setCell, Array.getElem?_modify, hbk2]
  · have h9 := own_keep32 ho2 hk2 (fun g hg => by
      intro hmem
      simp at hmem
      exact hne2 (by rw [hg, hmem]))
    rw [List.length_append, hq, hm]
    exact h9
set_option maxRecDepth 20000 in
set_option maxHeartbeats 4000000 in
theorem sumn_at (B b : Nat) (l : List UInt8) (w : World) (h : Hs w B b false l) (hbd : l.length ≤ 5000000) (hT : Tabs w) :
    Calls Tryd.prog 14 #[.pointer (some ⟨b, 0, none⟩)] w fun e w' => ∃ m, e = .returned (.slice (some ⟨m, 0, none⟩) 32 32) ∧ Row w' m 24 ((hash32 l).map bv) ∧ Ext w w' ∧ w.heap.size ≤ m := by
  obtain ⟨hB, v, hbk, ho⟩ := h
  obtain ⟨C, cc, rfl, hnc, hcm, hrd, -⟩ := own_form ho
  have c0 : w.cell? ⟨b, 0, none⟩ = some (.bool false) := by rw [Lib.cell_of_heap hbk]; rfl
  have c1 : w.cell? ⟨b, 1, none⟩ = some (.slice C l.length cc) := by rw [Lib.cell_of_heap hbk]; rfl
  have hs := sum256_any C l.length cc l w rfl hnc hrd hbd hT.1
  have hlen := outAt_len32 l
  generalize hash32 l = d at *
  generalize l.length = q at *
  have hs1 : ((d.map bv).toArray).size = 32 := by simp [hlen]
  have hs2 : (((List.replicate 32 (0 : UInt8)).map bv).toArray).size = 32 := by simp
  have hall := all32 d
  go_enter Tryd.func14, Tryd.ntmps14
  go_wp2_with (first
    | (go_at_call 7; with_reducible refine hs.mono ?_; rintro e w1 ⟨rfl, hx1⟩)
    | (refine store_fresh32 rfl (.tmp 4) (.tmp 19) rfl d hlen rfl rfl ?_; intro w2 hrow hx2))
  go_ret
  exact ⟨_, rfl, hrow, hx1.trans hx2, hx1.size⟩
set_option maxRecDepth 20000 in
set_option maxHeartbeats 4000000 in
theorem sumw_at (B b : Nat) (l : List UInt8) (w : World) (h : Hs w B b true l) (hbd : l.length ≤ 5000000) (hT : Tabs w) :
    Calls Tryd.prog 14 #[.pointer (some ⟨b, 0, none⟩)] w fun e w' => ∃ m, e = .returned (.slice (some ⟨m, 0, none⟩) 64 64) ∧ Row w' m 26 ((hash64 l).map bv) ∧ Ext w w' ∧ w.heap.size ≤ m := by
  obtain ⟨hB, v, hbk, ho⟩ := h
  obtain ⟨C, cc, rfl, hnc, hcm, hrd, -⟩ := own_form ho
  have c0 : w.cell? ⟨b, 0, none⟩ = some (.bool true) := by rw [Lib.cell_of_heap hbk]; rfl
  have c1 : w.cell? ⟨b, 1, none⟩ = some (.slice C l.length cc) := by rw [Lib.cell_of_heap hbk]; rfl
  have hs := sum512_any C l.length cc l w rfl hnc hrd hbd hT.2
  have hlen := outAt_len64 l
  generalize hash64 l = d at *
  generalize l.length = q at *
  have hs1 : ((d.map bv).toArray).size = 64 := by simp [hlen]
  have hs2 : (((List.replicate 64 (0 : UInt8)).map bv).toArray).size = 64 := by simp
  have hall := all64 d
  go_enter Tryd.func14, Tryd.ntmps14
  go_wp2_with (first
    | (go_at_call 8; with_reducible refine hs.mono ?_; rintro e w1 ⟨rfl, hx1⟩)
    | (refine store_fresh64 rfl (.tmp 3) (.tmp 13) rfl d hlen rfl rfl ?_; intro w2 hrow hx2))
  go_ret
  exact ⟨_, rfl, hrow, hx1.trans hx2, hx1.size⟩
end Go.Proofs.YtnlphndfnnmdaaaDoor
