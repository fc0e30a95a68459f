/-
  Walks of the document's answer: sums of numbers.
-/
import Derived.Test.YtndohjgfjbopnaaRefB
import Derived.Deep.AppendLies
set_option linter.unusedSimpArgs false
set_option linter.unusedVariables false
namespace Go.Cv.Dig
open Go.RowKit
/-- One digit of a sum. -/
theorem plus_step {D P i c x y X Y : Nat} (h : D + P * c = X + Y) :
    D + P * ((x + y + c) % 16777216) + P * 16777216 * ((x + y + c) / 16777216) = X + P * x + (Y + P * y) := by
  have e := Nat.mod_add_div (x + y + c) 16777216
  have e2 : P * ((x + y + c) % 16777216 + 16777216 * ((x + y + c) / 16777216)) = P * (x + y + c) := by rw [e]
  rw [Nat.mul_add, ← Nat.mul_assoc] at e2
  rw [Nat.mul_add, Nat.mul_add] at e2
  omega
/-- What stands behind i digits of a sum. -/
structure PlusInv (a b ds : List Nat) (c i : Nat) : Prop where
  len : ds.length = i
  small : Small ds
  carry : c ≤ 1
  val : dval ds + 16777216 ^ i * c = lo a i + lo b i
  far : c ≠ 0 → i ≤ a.length ∨ i ≤ b.length
  le : i ≤ a.length + b.length + 1
  last : c = 0 → a.length ≤ i → b.length ≤ i → ds.getLast? ≠ some 0
theorem PlusInv.start (a b : List Nat) : PlusInv a b [] 0 0 := ⟨rfl, Small.nil_, by omega, by simp [dval, lo], fun h => absurd rfl h, by omega, fun _ _ _ => by simp⟩
theorem Canon.top {l : List Nat} (h : Canon l) {i : Nat} (hi : i < l.length) (ht : l.length ≤ i + 1) : dg l i ≠ 0 := by
  have h2 := h.2
  have e : i = l.length - 1 := by omega
  rw [List.getLast?_eq_getElem?, ← e, List.getElem?_eq_getElem hi] at h2
  rw [dg_lt hi]
  intro h0
  exact h2 (by rw [h0])
theorem PlusInv.step {a b ds : List Nat} {c i : Nat} (ha : Canon a) (hb : Canon b) (h : PlusInv a b ds c i) (hg : i < a.length ∨ i < b.length ∨ 0 < c) :
    PlusInv a b (ds ++ [(dg a i + dg b i + c) % 16777216]) ((dg a i + dg b i + c) / 16777216) (i + 1) := by
  have h1 := ha.1.dg i
  have h2 := hb.1.dg i
  have hc := h.carry
  refine ⟨by simp [h.len], h.small.snoc (Nat.mod_lt _ (by decide)), by omega, ?_, fun h0 => ?_, ?_, fun h0 hla hlb => ?_⟩
  · rw [dval_snoc, h.len, lo_succ, lo_succ, Nat.pow_succ]
    exact plus_step (i := i) h.val
  · by_cases hia : i < a.length
    · exact .inl hia
    · by_cases hib : i < b.length
      · exact .inr hib
      · rw [dg_ge (by omega), dg_ge (by omega)] at h0
        omega
  · have := h.far
    by_cases hc0 : c = 0
    · omega
    · have := this hc0
      omega
  · rw [List.getLast?_append, List.getLast?_singleton]
    simp only [Option.some_or]
    intro he
    have he := Option.some.inj he
    have hz : dg a i + dg b i + c = 0 := by omega
    rcases hg with hg | hg | hg
    · have := ha.top hg hla; omega
    · have := hb.top hg hlb; omega
    · omega
theorem PlusInv.done {a b ds : List Nat} {i : Nat} (h : PlusInv a b ds 0 i) (hla : a.length ≤ i) (hlb : b.length ≤ i) : Canon ds ∧ dval ds = dval a + dval b := by
  refine ⟨⟨h.small, h.last rfl hla hlb⟩, ?_⟩
  have := h.val
  rw [lo_all hla, lo_all hlb] at this
  omega
end Go.Cv.Dig
namespace Go.Proofs.Ytndohjgfjbopnaa
open Go.RowKit Go.Cv Go.Cv.Dig

/-- A number that came back: its digits, none of them nought at the end, at most N. -/
def Num (w : World) (v : Value) (x N : Nat) : Prop := ∃ A n c l, v = .slice A n c ∧ l.length = n ∧ n ≤ c ∧ Rd w A (l.map iv) ∧ Canon l ∧ dval l = x ∧ n ≤ N
theorem Num.mk {w : World} {x N : Nat} {A : Option Addr} {n c : Nat} {l : List Nat} (hn : l.length = n) (hc : n ≤ c) (hr : Rd w A (l.map iv)) (hl : Canon l) (hx : dval l = x) (hN : n ≤ N) : Num w (.slice A n c) x N :=
  ⟨A, n, c, l, rfl, hn, hc, hr, hl, hx, hN⟩
theorem Num.ext {w w' : World} {v : Value} {x N : Nat} (h : Num w v x N) (hx : Ext w w') : Num w' v x N := by
  obtain ⟨A, n, c, l, rfl, hn, hc, hr, h⟩ := h
  exact ⟨A, n, c, l, rfl, hn, hc, hr.ext hx, h⟩
theorem introw : RowT Try.prog 28 3 8 := RowT.of (z := .int .i64 0) Try.underlying28 (by kernel_rfl) rfl

set_option maxHeartbeats 2000000 in
theorem plus_any (A B : Option Addr) (n1 n2 c1 c2 : Nat) (l m : List Nat) (w : World) (hn1 : l.length = n1) (hn2 : m.length = n2) (hl : Canon l) (hm : Canon m)
    (hr1 : Rd w A (l.map iv)) (hr2 : Rd w B (m.map iv)) (hb1 : n1 ≤ 1000000) (hb2 : n2 ≤ 1000000) :
    Calls Try.prog 65 #[.slice A n1 c1, .slice B n2 c2] w fun e w' => ∃ v, e = .returned v ∧ Num w' v (dval l + dval m) (n1 + n2 + 1) ∧ Ext w w' := by
  have HN1 := Lib.hid hn1
  have HN2 := Lib.hid hn2
  have HL := Lib.hid hl
  have HM := Lib.hid hm
  clear hl hm
  go_enter Try.func65, Try.ntmps65
  go_wp2
  go_loopw [5, 6, 7, 8] (fun v t6 t7 _ wr => ∃ (i c : Nat) (ds : List Nat), t7 = .int .i64 i ∧ t6 = .int .i64 c ∧ wr.ownsRow w.heap.size 3 1 v i (ds.map iv) ∧ Ext w wr ∧ Hid (PlusInv l m ds c i) ∧ i ≤ n1 + n2 + 1 ∧ c ≤ 1) (fun _ _ t7 _ _ => n1 + n2 + 2 - (intOf t7).toNat)
  case atStart => exact ⟨0, 0, [], rfl, rfl, World.ownsRow_nil w _ _ 1, Ext.refl _, Lib.hid (PlusInv.start l m), by omega, by omega⟩
  case round =>
    obtain ⟨i, c, ds, rfl, rfl, ho, hE, HP, hi, hc⟩ := hrel
    have hx := HL.out.1.dg i
    have hy := HM.out.1.dg i
    obtain ⟨C, cc, rfl, hnc, hcm, hrd, hlen⟩ := own_form ho
    have HS : Hid ((i < l.length ∨ i < m.length ∨ 0 < c) → PlusInv l m (ds ++ [(dg l i + dg m i + c) % 16777216]) ((dg l i + dg m i + c) / 16777216) (i + 1)) := Lib.hid fun hg => HP.out.step HL.out HM.out hg
    rcases (by omega : i < n1 ∨ (n1 ≤ i ∧ i < n2) ∨ (n1 ≤ i ∧ n2 ≤ i ∧ 0 < c) ∨ (n1 ≤ i ∧ n2 ≤ i ∧ c = 0)) with h | ⟨h0, h⟩ | ⟨h0, h1, h⟩ | ⟨h0, h1, rfl⟩
    · have k1 : (i : Int) < (n1 : Int) := by omega
      go_wp2_with (first
          | (go_at_call 61; with_reducible refine (digit_any A n1 c1 l i _ HN1.out (hr1.ext hE) (by omega) (by omega)).mono ?_; rintro e w' ⟨rfl, rfl⟩)
          | (go_at_call 61; with_reducible refine (digit_any B n2 c2 m i _ HN2.out (hr2.ext hE) (by omega) (by omega)).mono ?_; rintro e w' ⟨rfl, rfl⟩)
          | (at_builtin; refine wpList_app rfl (.tmp 34) (.tmp 37) 28 3 8 rfl introw w.heap.size _ i _ rfl (own_ext ho (ext_alloc _ _)) _ 1 1 [iv ((dg l i + dg m i + c) % 16777216)] rfl rfl (rd_new_one _ _ _) (one_map_iv [_]) (by simp [maxLen]; omega) (by omega) (hE.trans (ext_alloc _ _)).size ?_; intro A2 c2' w2 ho2 hc2 hm2 hr2' hE2 hg2; have hEn := hE2 w (hE.trans (ext_alloc _ _)) (Nat.le_refl _); clear hE2 hg2 hr2'))
      refine ⟨⟨i + 1, (dg l i + dg m i + c) / 16777216, ds ++ [(dg l i + dg m i + c) % 16777216], by go_num, rfl, by rw [List.map_append]; exact ho2, hEn, Lib.hid (HS.out (by rw [HN1.out, HN2.out]; omega)), by omega, by omega⟩, by simp [intOf]; omega⟩
    · have k1 : ¬ (i : Int) < (n1 : Int) := by omega
      have k2 : (i : Int) < (n2 : Int) := by omega
      go_wp2_with (first
          | (go_at_call 61; with_reducible refine (digit_any A n1 c1 l i _ HN1.out (hr1.ext hE) (by omega) (by omega)).mono ?_; rintro e w' ⟨rfl, rfl⟩)
          | (go_at_call 61; with_reducible refine (digit_any B n2 c2 m i _ HN2.out (hr2.ext hE) (by omega) (by omega)).mono ?_; rintro e w' ⟨rfl, rfl⟩)
          | (at_builtin; refine wpList_app rfl (.tmp 34) (.tmp 37) 28 3 8 rfl introw w.heap.size _ i _ rfl (own_ext ho (ext_alloc _ _)) _ 1 1 [iv ((dg l i + dg m i + c) % 16777216)] rfl rfl (rd_new_one _ _ _) (one_map_iv [_]) (by simp [maxLen]; omega) (by omega) (hE.trans (ext_alloc _ _)).size ?_; intro A2 c2' w2 ho2 hc2 hm2 hr2' hE2 hg2; have hEn := hE2 w (hE.trans (ext_alloc _ _)) (Nat.le_refl _); clear hE2 hg2 hr2'))
      refine ⟨⟨i + 1, (dg l i + dg m i + c) / 16777216, ds ++ [(dg l i + dg m i + c) % 16777216], by go_num, rfl, by rw [List.map_append]; exact ho2, hEn, Lib.hid (HS.out (by rw [HN1.out, HN2.out]; omega)), by omega, by omega⟩, by simp [intOf]; omega⟩
    · have k1 : ¬ (i : Int) < (n1 : Int) := by omega
      have k2 : ¬ (i : Int) < (n2 : Int) := by omega
      have k3 : (0 : Int) < (c : Int) := by omega
      go_wp2_with (first
          | (go_at_call 61; with_reducible refine (digit_any A n1 c1 l i _ HN1.out (hr1.ext hE) (by omega) (by omega)).mono ?_; rintro e w' ⟨rfl, rfl⟩)
          | (go_at_call 61; with_reducible refine (digit_any B n2 c2 m i _ HN2.out (hr2.ext hE) (by omega) (by omega)).mono ?_; rintro e w' ⟨rfl, rfl⟩)
          | (at_builtin; refine wpList_app rfl (.tmp 34) (.tmp 37) 28 3 8 rfl introw w.heap.size _ i _ rfl (own_ext ho (ext_alloc _ _)) _ 1 1 [iv ((dg l i + dg m i + c) % 16777216)] rfl rfl (rd_new_one _ _ _) (one_map_iv [_]) (by simp [maxLen]; omega) (by omega) (hE.trans (ext_alloc _ _)).size ?_; intro A2 c2' w2 ho2 hc2 hm2 hr2' hE2 hg2; have hEn := hE2 w (hE.trans (ext_alloc _ _)) (Nat.le_refl _); clear hE2 hg2 hr2'))
      refine ⟨⟨i + 1, (dg l i + dg m i + c) / 16777216, ds ++ [(dg l i + dg m i + c) % 16777216], by go_num, rfl, by rw [List.map_append]; exact ho2, hEn, Lib.hid (HS.out (by rw [HN1.out, HN2.out]; omega)), by have := HP.out.far (by omega); rw [HN1.out, HN2.out] at this; omega, by omega⟩, by simp [intOf]; omega⟩
    · have k1 : ¬ (i : Int) < (n1 : Int) := by omega
      have k2 : ¬ (i : Int) < (n2 : Int) := by omega
      go_wp2
      go_ret
      have hd := HP.out.done (by rw [HN1.out]; exact h0) (by rw [HN2.out]; exact h1)
      exact ⟨_, rfl, Num.mk HP.out.len hnc hrd hd.1 hd.2 hi, hE⟩
end Go.Proofs.Ytndohjgfjbopnaa
