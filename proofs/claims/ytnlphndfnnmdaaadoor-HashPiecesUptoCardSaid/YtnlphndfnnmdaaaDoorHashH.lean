/-
  The hasher, two rows of bytes alike, and the head of all statements of layer 5.
-/
import Derived.Test.YtnlphndfnnmdaaaDoorHashF
import Derived.Test.YtnlphndfnnmdaaaDoorHashG
import Derived.BigQuiet
set_option linter.unusedSimpArgs false
set_option linter.unusedVariables false
namespace Go.Cv.Hash
open Go.RowKit
theorem outAt_len32 (l : List UInt8) : (hash32 l).length = 32 := by simp [hash32, digest32]
theorem outAt_len64 (l : List UInt8) : (hash64 l).length = 64 := by simp [hash64, digest64]
set_option maxRecDepth 100000 in
theorem ex32 : (hash32 []).getD 0 0 = 227 ∧ (hash32 []).getD 31 0 = 85 := by decide +kernel
set_option maxRecDepth 100000 in
theorem ex64 : (hash64 [97, 98, 99]).getD 0 0 = 221 ∧ (hash64 [97, 98, 99]).getD 63 0 = 159 := by decide +kernel
/-- What a hasher tells. -/
def hashW (wide : Bool) (l : List UInt8) : List UInt8 := if wide then hash64 l else hash32 l
/-- The four tables. -/
def Tabs (w : World) : Prop := Tab32 w ∧ Tab64 w
theorem Tabs.ext {w w' : World} (h : Tabs w) (hx : Ext w w') : Tabs w' := ⟨h.1.ext hx, h.2.ext hx⟩
end Go.Cv.Hash
namespace Go.Proofs.YtnlphndfnnmdaaaDoor
open Go.RowKit Go.Cv Go.Cv.Hash Go.Cv.Dig
set_option maxHeartbeats 4000000 in
theorem same_any (A : Option Addr) (n c : Nat) (l : List UInt8) (B : Option Addr) (m d : Nat) (k : List UInt8) (w : World) (hl : l.length = n) (hr : Rd w A (l.map bv)) (hk : k.length = m) (hr2 : Rd w B (k.map bv)) (bnd : n ≤ 5000000) :
    Calls Tryd.prog 9 #[.slice A n c, .slice B m d] w fun e w' => e = .returned (.bool (decide (l = k))) ∧ Ext w w' := by
  by_cases hnm : n = m
  · subst hnm
    have HN := Lib.hid hl
    have HM := Lib.hid hk
    obtain ⟨r, hres⟩ : ∃ r, r = decide (l = k) := ⟨_, rfl⟩
    rw [← hres]
    have hrx := Lib.hid hres
    clear hl hk hres
    go_enter Tryd.func9, Tryd.ntmps9
    go_wp2
    go_loopw [5] (fun t wr => ∃ i : Nat, i ≤ n ∧ t = .int .i64 i ∧ Hid (l.take i = k.take i) ∧ Ext w wr) (fun t _ => n - (intOf t).toNat)
    case atStart => exact ⟨0, by omega, rfl, Lib.hid rfl, Ext.refl _⟩
    case round =>
      obtain ⟨i, hin, rfl, htk, hE⟩ := hrel
      by_cases h1 : i < n
      · have h1' : (i : Int) < (n : Int) := by omega
        have hil : i < l.length := by rw [HN.out]; exact h1
        have hik : i < k.length := by rw [HM.out]; exact h1
        obtain ⟨ad, rfl, hcell⟩ := (hr.ext hE).at_ (k := i) (by rw [List.length_map]; exact hil)
        obtain ⟨bd, rfl, hcell2⟩ := (hr2.ext hE).at_ (k := i) (by rw [List.length_map]; exact hik)
        rw [List.getElem_map] at hcell hcell2
        have ht1 : l.take (i + 1) = l.take i ++ [l[i]] := List.take_succ_eq_append_getElem hil
        have ht2 : k.take (i + 1) = k.take i ++ [k[i]] := List.take_succ_eq_append_getElem hik
        have hne : l[i] ≠ k[i] → l ≠ k := fun h e => h (by subst e; rfl)
        have hht1 := Lib.hid ht1
        have hht2 := Lib.hid ht2
        clear ht1 ht2
        generalize l[i]'hil = x at *
        generalize k[i]'hik = y at *
        obtain ⟨xg, rfl⟩ := grw_of_ext hE
        clear hE
        by_cases hxy : x = y
        · subst hxy
          have htk2 : Hid (l.take (i + 1) = k.take (i + 1)) := Lib.hid (by rw [hht1.out, hht2.out, htk.out])
          clear hne hht1 hht2 htk
          go_wp2
          go_quiet (fail)
          go_wp2
          exact ⟨⟨i + 1, by omega, by go_num, htk2, (by (repeat (first | exact grw_ext _ _ | exact Ext.refl _ | refine Ext.drewN ?_ _ | refine Ext.trans ?_ (ext_drew _))))⟩, by simp [intOf]; omega⟩
        · have hb : (x != y) = true := by simpa using hxy
          have hf : Hid (r = false) := Lib.hid (by rw [hrx.out]; exact decide_eq_false (hne hxy))
          clear hne hht1 hht2 htk
          go_wp2
          go_quiet (fail)
          go_wp2
          rw [hf.out]
          go_ret
          exact ⟨rfl, (by (repeat (first | exact grw_ext _ _ | exact Ext.refl _ | refine Ext.drewN ?_ _ | refine Ext.trans ?_ (ext_drew _))))⟩
      · obtain rfl : i = n := by omega
        have hf : Hid (r = true) := Lib.hid (by
          rw [hrx.out]
          have := htk.out
          rw [List.take_of_length_le (by rw [HN.out]; omega), List.take_of_length_le (by rw [HM.out]; omega)] at this
          exact decide_eq_true this)
        clear htk
        go_wp2
        rw [hf.out]
        go_ret
        exact ⟨rfl, hE⟩
  · have hne : ¬ l = k := fun e => hnm (by rw [← hl, ← hk, e])
    rw [decide_eq_false hne]
    have hnm' : ¬ (n : Int) = (m : Int) := by omega
    clear hl hk hne hr hr2
    go_enter Tryd.func9, Tryd.ntmps9
    go_wp2
    go_ret
    exact ⟨rfl, Ext.refl _⟩


/-- A hasher: what it took lies in a row of its own. -/
def Hs (w : World) (B b : Nat) (wide : Bool) (l : List UInt8) : Prop :=
  B ≤ b ∧ ∃ v, w.heap[b]? = some (.cells #[.bool wide, v] 56 (0, 0)) ∧ w.ownsRow B 5 1 v l.length (l.map bv)
theorem Hs.ext {w w' : World} {B b : Nat} {wide : Bool} {l : List UInt8} (h : Hs w B b wide l) (hx : Ext w w') : Hs w' B b wide l := by
  obtain ⟨hB, v, hb, ho⟩ := h
  exact ⟨hB, v, (hx.block b (Array.getElem?_eq_some_iff.1 hb).1).trans hb, own_ext ho hx⟩
theorem new_any (wide : Bool) (w : World) :
    Calls Tryd.prog 12 #[.bool wide] w fun e w' => e = .returned (.pointer (some ⟨w.heap.size, 0, none⟩)) ∧ Hs w' w.heap.size w.heap.size wide [] ∧ Ext w w' := by
  go_enter Tryd.func12, Tryd.ntmps12
  go_wp2
  go_ret
  refine ⟨rfl, ⟨Nat.le_refl _, .slice none 0 0, ?_, World.ownsRow_nil _ _ _ 1⟩, ext_alloc _ _⟩
  show (w.heap.push _)[w.heap.size]? = _
  simp
/-- Rows that hold no bytes of uint8, but b, stand as they stood. -/
def Oth (b : Nat) (w w' : World) : Prop := ∀ k cs T fr, k ≠ b → T ≠ 5 → w.heap[k]? = some (.cells cs T fr) → w'.heap[k]? = some (.cells cs T fr)
theorem Oth.row {b : Nat} {w w' : World} {k : Nat} {T : TypeId} {cs : List Value} (h : Oth b w w') (hr : Row w k T cs) (hk : k ≠ b) (hT : T ≠ 5) : Row w' k T cs := h k _ T _ hk hT hr
set_option maxRecDepth 10000 in
set_option maxHeartbeats 4000000 in
theorem write_any (B b : Nat) (wide : Bool) (l : List UInt8) (A : Option Addr) (n c : Nat) (m : List UInt8) (w : World) (h : Hs w B b wide l) (hm : m.length = n) (hr : Rd w A (m.map bv)) (hbd : l.length + n ≤ 100000000) (hBw : B ≤ w.heap.size) :
    Calls Tryd.prog 13 #[.pointer (some ⟨b, 0, none⟩), .slice A n c] w fun e w' => e = .returned (.tuple #[]) ∧ Hs w' B b wide (l ++ m) ∧ Below B w w' ∧ Oth b w w' := by
  obtain ⟨hB, v, hbk, ho⟩ := h
  have hne : v.ownBlock ≠ some b := by
    rcases ho.2 with ⟨rfl, _⟩ | ⟨g, cap, cur, rfl, _, hg, _⟩
    · simp [Value.ownBlock]
    · intro h
      simp only [Value.ownBlock, Option.some.injEq] at h
      subst h
      rw [hg] at hbk
      simp only [Option.some.injEq, Obj.cells.injEq] at hbk
      exact absurd hbk.2.1 (by decide)
  obtain ⟨C, cc, rfl, hnc, hcm, hrd, -⟩ := own_form ho
  have c1 : w.cell? ⟨b, 1, none⟩ = some (.slice C l.length cc) := by rw [Lib.cell_of_heap hbk]; rfl
  have hlt : b < w.heap.size := (Array.getElem?_eq_some_iff.1 hbk).1
  generalize hq : l.length = q at *
  go_enter Tryd.func13, Tryd.ntmps13
  go_wp2_with (at_builtin; refine wpList_appbg rfl (.tmp 8) (.tmp 9) 22 5 rfl u8rowH32 B _ q l rfl ho A n c m rfl hm hr (by omega) hBw ?_; intro A2 c2 w2 ho2 hc2 hm2 hr2 hE2 hg2; have hbk2 : w2.heap[b]? = some (.cells #[.bool wide, .slice C q cc] 56 (0, 0)) := (by rw [hg2.block b hlt (fun e => hne e.symm)]; exact hbk); have d1 : w2.cell? ⟨b, 1, none⟩ = some (.slice C q cc) := (by rw [Lib.cell_of_heap hbk2]; rfl); have f1 : w2.frozen? ⟨b, 1, none⟩ = false := Lib.frozen_of_heap hbk2 1)
  go_end0
  have hg3 : w.grownBy w2 (Value.slice C q cc).ownBlock := hg2
  have how : w.ownsRow B 5 1 (.slice C q cc) q (l.map bv) := ho
  have hne2 : (Value.slice A2 (q + n) c2).ownBlock ≠ some b := by
    rcases ho2.2 with ⟨e, _⟩ | ⟨g, cap, cur, e, _, hg, _⟩
    · rw [e]; simp [Value.ownBlock]
    · rw [e]
      intro h
      simp only [Value.ownBlock, Option.some.injEq] at h
      subst h
      rw [hg] at hbk2
      simp only [Option.some.injEq, Obj.cells.injEq] at hbk2
      exact absurd hbk2.2.1 (by decide)
  refine ⟨rfl, ⟨hB, .slice A2 (q + n) c2, ?_, ?_⟩, ?_, ?_⟩
  · simp [World.setCell, Array.getElem?_modify, hbk2]
  · have hk : Keep [b] w2 (w2.setCell ⟨b, 1, none⟩ (.slice A2 (q + n) c2)) := Keep.setCell _ ⟨b, 1, none⟩ _
    have h9 := own_keep32 ho2 hk (fun g hg => by
      intro hmem
      simp at hmem
      exact hne2 (by rw [hg, hmem]))
    rw [List.length_append, hq, hm]
    exact h9
  · exact Below.setCell (B := B) (Below.grown (Below.refl _ _) hg2 hBw (fun k hk => (ho.lt k hk).1)) (p := ⟨b, 1, none⟩) hB _
  · intro k cs T fr hkb hT hk
    rw [Below.heap_setCell _ _ _ _ (by exact hkb), hg3.block k (Array.getElem?_eq_some_iff.1 hk).1 (fun e => ?_)]
    · exact hk
    · rcases how.2 with ⟨e2, _⟩ | ⟨g, cap, cur, e2, _, hg, _⟩
      · rw [e2] at e; simp [Value.ownBlock] at e
      · rw [e2] at e
        simp only [Value.ownBlock, Option.some.injEq] at e
        subst e
        rw [hg] at hk
        simp only [Option.some.injEq, Obj.cells.injEq] at hk
        exact hT hk.2.1.symm
end Go.Proofs.YtnlphndfnnmdaaaDoor
